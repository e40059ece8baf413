/- Words for memory that all walks of this seat share: a slice as it reads ('RowAt'), what a call leaves as it was ('Below'), and an append onto a row of the call's own. No function of the program is named here. Laws on rows of a call's own: an append in a region that draws its order; a row cut short; a block of cells as it stands. No function of the program is named here. An append of a made slice of zeros, as the translation has it ('append(x, make([]int, n)...)'), onto a full row of one number; and a made slice of zeros. No function of the program is named here. An append of a made slice of zeros, as the translation has it ('append(x, make([]T, n)...)'), onto a row of the call's own, whatever its room. No function of the program is named here. -/
import Derived.WalkKit
import Derived.WalkSpells
import Derived.WalkLawsBesides
import Derived.Lib.Hide
import Derived.Deep.Draws
import Derived.Maps.AppendAt
import Derived.Deep.AppendLies
import Derived.Laws.MakeOwn
namespace Go.Proofs.YteldkcpkamgfpaaDoor
set_option linter.unusedSimpArgs false
set_option linter.unusedVariables false
open Go.RowKit

theorem ret_bool {a b : Bool} (h : a = b) : Ending.returned (.bool a) = .returned (.bool b) := by rw [h]
theorem ret_int {k : IntKind} {a b : Int} (h : a = b) : Ending.returned (.int k a) = .returned (.int k b) := by rw [h]

theorem below_drewN {B : Nat} {a w : World} (h : Below B a w) (n : Nat) : Below B a (w.drewN n) := ⟨h.os, h.tape, h.output, h.size, h.block⟩

/-- the slice value v reads, in w, as n elements whose cells, one behind the other, are cs (size cells an element) -/
structure RowAt (w : World) (size : Nat) (v : Value) (n : Nat) (cs : List Value) : Prop where
  len : cs.length = n * size
  form : ∃ a cap, v = .slice a n cap ∧ n ≤ cap ∧ cap ≤ maxLen ∧ (0 < n → ∃ b off, a = some ⟨b, off, none⟩ ∧ b < w.heap.size ∧ ∀ j u, cs[j]? = some u → w.cell? ⟨b, off + j, none⟩ = some u)

section
variable {w w' : World} {size n : Nat} {v : Value} {cs : List Value}

theorem RowAt.nil (w : World) (size : Nat) : RowAt w size (.slice none 0 0) 0 [] :=
  ⟨by simp, none, 0, rfl, Nat.le_refl _, by unfold maxLen; omega, fun h => absurd h (by omega)⟩

theorem RowAt.pos (h : RowAt w size v n cs) (hn : 0 < n) :
    ∃ b off cap, v = .slice (some ⟨b, off, none⟩) n cap ∧ n ≤ cap ∧ cap ≤ maxLen ∧ b < w.heap.size ∧ ∀ j u, cs[j]? = some u → w.cell? ⟨b, off + j, none⟩ = some u := by
  obtain ⟨a, cap, rfl, h1, h2, h3⟩ := h.form
  obtain ⟨b, off, rfl, hb, hc⟩ := h3 hn
  exact ⟨b, off, cap, rfl, h1, h2, hb, hc⟩

theorem RowAt.small (h : RowAt w size v n cs) : n ≤ maxLen := by
  obtain ⟨a, cap, rfl, h1, h2, h3⟩ := h.form
  omega

theorem RowAt.keep (h : RowAt w size v n cs) (hs : w.heap.size ≤ w'.heap.size) (hk : ∀ p : Addr, p.block < w.heap.size → w'.cell? p = w.cell? p) : RowAt w' size v n cs := by
  obtain ⟨a, cap, rfl, h1, h2, h3⟩ := h.form
  refine ⟨h.len, a, cap, rfl, h1, h2, fun hn => ?_⟩
  obtain ⟨b, off, rfl, hb, hc⟩ := h3 hn
  exact ⟨b, off, rfl, by omega, fun j u hu => (hk _ hb).trans (hc j u hu)⟩

theorem RowAt.below (h : RowAt w size v n cs) (hb : Below w.heap.size w w') : RowAt w' size v n cs :=
  h.keep hb.size fun _ hp => hb.cell hp

theorem RowAt.alloc (h : RowAt w size v n cs) (o : Obj) : RowAt (w.alloc o) size v n cs :=
  h.below ((Below.refl _ _).alloc (Nat.le_refl _) o)

theorem RowAt.drew (h : RowAt w size v n cs) : RowAt w.drew size v n cs := ⟨h.len, h.form⟩
theorem RowAt.drewN (h : RowAt w size v n cs) (k : Nat) : RowAt (w.drewN k) size v n cs := ⟨h.len, h.form⟩

theorem RowAt.of_own {base : Nat} {e : TypeId} (h : w.ownsRow base e size v n cs) : RowAt w size v n cs := by
  refine ⟨h.1, ?_⟩
  rcases h.2 with ⟨rfl, rfl⟩ | ⟨g, cap, cur, rfl, hb, hg, h1, h2, h3, h4⟩
  · exact ⟨none, 0, rfl, Nat.le_refl _, by unfold maxLen; omega, fun h => absurd h (by omega)⟩
  · refine ⟨_, cap, rfl, h1, h2, fun hn => ⟨g, 0, rfl, (Array.getElem?_eq_some_iff.1 hg).1, fun j u hu => ?_⟩⟩
    have := h.cells (g := g) rfl j u hu
    have hadd : (⟨g, 0, none⟩ : Addr).add j = ⟨g, 0 + j, none⟩ := by unfold Addr.add; split <;> simp_all
    rw [hadd] at this
    exact this

/-- a block that a literal has laid, as a slice -/
theorem RowAt.lit (w : World) (e : TypeId) (xs : Array Value) (n : Nat) (hs : xs.size = n * size) (hn : n ≤ maxLen) :
    RowAt (w.alloc (.cells xs e)) size (.slice (some ⟨w.heap.size, 0, none⟩) n n) n xs.toList :=
  RowAt.of_own (World.ownsRow_lit (base := 0) (e := e) w xs n (Nat.zero_le _) hn hs)

end

section
variable {P : Program} {w : World}

theorem run_append_zero (base : Nat) (t ty e : TypeId) (i : TypeInfo) (size : Nat) (ht : P.underlying t = some (.slice e)) (hi : P.info? e = some i)
    (v : Value) (n : Nat) (xs : List Value) (hown : w.ownsRow base e size v n xs) (c : Nat) : (Builtin.append_ #[t, t] ty #[v, .slice none 0 c]).run P w = .ok v w := by
  rcases hown.2 with ⟨rfl, rfl⟩ | ⟨g, cap, cur, rfl, _, _, hnc, _⟩
  · simp [Builtin.append_, run_underlying ht, sizeOf, typeInfo, hi, Builtin.lenOf, Builtin.firstCells]
  · simp [Builtin.append_, run_underlying ht, sizeOf, typeInfo, hi, Builtin.lenOf, Builtin.firstCells, hnc, storeCells]

/-- an append onto a row of the call's own, whatever slice the source is -/
theorem run_append_row (base : Nat) (t ty e : TypeId) (i : TypeInfo) (z : Value) (size bytes : Nat) (ht : P.underlying t = some (.slice e)) (hi : P.info? e = some i) (hz : i.zero = some z)
    (hsize : i.size = size) (hby : i.bytes = bytes) (hzs : z.cells.size = size) (hsz : 0 < size)
    (v : Value) (n : Nat) (xs : List Value) (hown : w.ownsRow base e size v n xs)
    (x : Value) (m : Nat) (news : List Value) (hr : RowAt w size x m news) (h1 : ∀ u ∈ news, u.oneCell' = true)
    (hbytes : (n + m) * bytes ≤ 140737488355328) (h63 : n + m ≤ maxLen) (hbase : base ≤ w.heap.size) :
    ∃ v' w', (Builtin.append_ #[t, t] ty #[v, x]).run P w = .ok v' w' ∧ w'.ownsRow base e size v' (n + m) (xs ++ news) ∧ w.grownBy w' v.ownBlock ∧
      (v'.ownBlock = v.ownBlock ∨ v'.ownBlock = some w.heap.size) := by
  obtain ⟨a, cap, rfl, hc1, hc2, hc3⟩ := hr.form
  rcases Nat.eq_zero_or_pos m with h0 | h0
  · subst h0
    obtain rfl : news = [] := List.eq_nil_of_length_eq_zero (by simpa using hr.len)
    rcases a with _ | ad
    · exact ⟨v, w, run_append_zero base t ty e i size ht hi v n xs hown cap, by simpa using hown, World.grownBy.refl w _, .inl rfl⟩
    · obtain ⟨v', w', hrun, h2, h3, _, h5⟩ := run_append_own_at (P := P) w base t ty e i z size bytes ht hi hz hsize hby hzs hsz v n xs hown ad 0 cap [] hr.len (fun j u hu => by simp at hu) h1 h63 hbytes hbase
      exact ⟨v', w', hrun, h2, h3, h5⟩
  · obtain ⟨b, off, rfl, hb, hcell⟩ := hc3 h0
    have hadd : ∀ j, (⟨b, off, none⟩ : Addr).add j = ⟨b, off + j, none⟩ := by intro j; unfold Addr.add; split <;> simp_all
    obtain ⟨v', w', hrun, h2, h3, _, h5⟩ := run_append_own_at (P := P) w base t ty e i z size bytes ht hi hz hsize hby hzs hsz v n xs hown ⟨b, off, none⟩ m cap news hr.len
      (fun j u hu => by rw [hadd]; exact hcell j u hu) h1 h63 hbytes hbase
    exact ⟨v', w', hrun, h2, h3, h5⟩

theorem wpList_append_row {ops : Array Oper} {rest : List Oper} {o : Oper} {a : Act} {Q : Exit → Act → World → Prop} (hgd : o.guard = none) (s x : Operand) (t : TypeId)
    (ho : o.op = .call { callee := .builtin .append, args := #[s, x], argTypes := #[t, t] })
    (base : Nat) (e : TypeId) (i : TypeInfo) (z : Value) (size bytes : Nat) (ht : P.underlying t = some (.slice e)) (hi : P.info? e = some i) (hz : i.zero = some z)
    (hsize : i.size = size) (hby : i.bytes = bytes) (hzs : z.cells.size = size) (hsz : 0 < size)
    (v : Value) (n : Nat) (xs : List Value) (hs : a.eval s = v) (hown : w.ownsRow base e size v n xs)
    (y : Value) (m : Nat) (news : List Value) (hx : a.eval x = y) (hr : RowAt w size y m news) (h1 : ∀ u ∈ news, u.oneCell' = true)
    (hbytes : (n + m) * bytes ≤ 140737488355328) (h63 : n + m ≤ maxLen) (hbase : base ≤ w.heap.size)
    (h : ∀ v' w', w'.ownsRow base e size v' (n + m) (xs ++ news) → w.grownBy w' v.ownBlock → (v'.ownBlock = v.ownBlock ∨ v'.ownBlock = some w.heap.size) → wpList P ops Q rest (a.put o.dst v') w') : wpList P ops Q (o :: rest) a w := by
  refine wpList_plain hgd fun K hK => ?_
  obtain ⟨v', w', hrun, h2, h3, h4⟩ := run_append_row (P := P) base t o.type e i z size bytes ht hi hz hsize hby hzs hsz v n xs hown y m news hr h1 hbytes h63 hbase
  unfold Oper.wp execOp
  simp only [ho, resolve, invoke, builtin, Sem.run_bind, Sem.run_pure, Result.andThen_ok, List.map_toArray, List.map_cons, List.map_nil, hs, hx, hrun]
  exact hK _ _ (h v' w' h2 h3 h4)

end

/-- a slice of ints, as it reads -/
def ReadI (w : World) (v : Value) (l : List Int) : Prop := RowAt w 1 v l.length (l.map (.int .i64))

section
variable {w w' : World} {v : Value} {l : List Int}
theorem ReadI.below (h : ReadI w v l) (hb : Below w.heap.size w w') : ReadI w' v l := RowAt.below h hb
theorem ReadI.alloc (h : ReadI w v l) (o : Obj) : ReadI (w.alloc o) v l := RowAt.alloc h o
theorem ReadI.cases (h : ReadI w v l) : l.length ≤ maxLen ∧ ((l = [] ∧ ∃ a cap, v = .slice a 0 cap) ∨
    ∃ b off cap, v = .slice (some ⟨b, off, none⟩) l.length cap ∧ b < w.heap.size ∧ ∀ i, i < l.length → w.cell? ⟨b, off + i, none⟩ = some (.int .i64 (l.getD i 0))) := by
  refine ⟨h.small, ?_⟩
  by_cases h0 : l = []
  · subst h0
    obtain ⟨a, cap, rfl, _⟩ := h.form
    exact .inl ⟨rfl, a, cap, rfl⟩
  · obtain ⟨b, off, cap, rfl, _, _, hb, hc⟩ := RowAt.pos h (List.length_pos_iff.2 h0)
    refine .inr ⟨b, off, cap, rfl, hb, fun i hi => hc i _ ?_⟩
    simp [List.getD_eq_getElem?_getD, List.getElem?_eq_getElem hi]
theorem ReadI.len_slice (h : ReadI w v l) : ∃ a cap, v = .slice a l.length cap := by
  obtain ⟨a, cap, rfl, _⟩ := h.form
  exact ⟨a, cap, rfl⟩
theorem ReadI.lit (w : World) (e : TypeId) (l : List Int) (hl : l.length ≤ maxLen) : ReadI (w.alloc (.cells (l.map (Value.int .i64)).toArray e)) (.slice (some ⟨w.heap.size, 0, none⟩) l.length l.length) l := by
  have := RowAt.lit (size := 1) w e (l.map (Value.int .i64)).toArray l.length (by simp) hl
  simpa [ReadI] using this
end

end Go.Proofs.YteldkcpkamgfpaaDoor

namespace Go.Proofs.YteldkcpkamgfpaaDoor
set_option linter.unusedSimpArgs false
set_option linter.unusedVariables false
open Go.RowKit

section
variable {P : Program} {w : World}

theorem step_append_row {ops : Array Oper} {o : Oper} {a : Act} {K : Act → World → Prop} {Q : Exit → Act → World → Prop} {E : Prop} (hgd : o.guard = none) (s x : Operand) (t : TypeId)
    (ho : o.op = .call { callee := .builtin .append, args := #[s, x], argTypes := #[t, t] })
    (base : Nat) (e : TypeId) (i : TypeInfo) (z : Value) (size bytes : Nat) (ht : P.underlying t = some (.slice e)) (hi : P.info? e = some i) (hz : i.zero = some z)
    (hsize : i.size = size) (hby : i.bytes = bytes) (hzs : z.cells.size = size) (hsz : 0 < size)
    (v : Value) (n : Nat) (xs : List Value) (hs : a.eval s = v) (hown : w.ownsRow base e size v n xs)
    (y : Value) (m : Nat) (news : List Value) (hx : a.eval x = y) (hr : RowAt w size y m news) (h1 : ∀ u ∈ news, u.oneCell' = true)
    (hbytes : (n + m) * bytes ≤ 140737488355328) (h63 : n + m ≤ maxLen) (hbase : base ≤ w.heap.size)
    (h : ∀ v' w', w'.ownsRow base e size v' (n + m) (xs ++ news) → w.grownBy w' v.ownBlock → (v'.ownBlock = v.ownBlock ∨ v'.ownBlock = some w.heap.size) → K (a.put o.dst v') w') :
    if Region.wanted o (yielded ops a.tmps) = true then Oper.wp P o a w K Q else E := by
  have hw : Region.wanted o (yielded ops a.tmps) = true := by simp [Region.wanted, hgd]
  rw [if_pos hw]
  obtain ⟨v', w', hrun, h2, h3, h4⟩ := run_append_row (P := P) base t o.type e i z size bytes ht hi hz hsize hby hzs hsz v n xs hown y m news hr h1 hbytes h63 hbase
  unfold Oper.wp execOp
  simp only [ho, resolve, invoke, builtin, Sem.run_bind, Sem.run_pure, Result.andThen_ok, List.map_toArray, List.map_cons, List.map_nil, hs, hx, hrun]
  exact h v' w' h2 h3 h4

end

section
variable {w w' : World} {base : Nat} {e : TypeId} {size : Nat} {v : Value} {n : Nat} {xs : List Value}

/-- a row cut short stays the call's own -/
theorem ownsRow_cut (h : w.ownsRow base e size v n xs) {k : Nat} (hk : k ≤ n) : ∃ a cap, v = .slice a n cap ∧ n ≤ cap ∧ w.ownsRow base e size (.slice a k cap) k (xs.take (k * size)) := by
  rcases h.2 with ⟨rfl, rfl⟩ | ⟨g, cap, cur, rfl, hb, hg, h1, h2, h3, h4⟩
  · obtain rfl : k = 0 := by omega
    refine ⟨none, 0, rfl, Nat.le_refl _, by simp, .inl ⟨rfl, rfl⟩⟩
  · refine ⟨_, cap, rfl, h1, ?_, .inr ⟨g, cap, cur, rfl, hb, hg, by omega, h2, h3, ?_⟩⟩
    · rw [List.length_take, h.1]
      exact Nat.min_eq_left (Nat.mul_le_mul_right _ hk)
    · rw [← h4, List.take_take, Nat.min_eq_left (Nat.mul_le_mul_right _ hk)]

/-- where there is an element: the row's block, and its cells -/
theorem ownsRow_open (h : w.ownsRow base e size v n xs) (hn : 0 < n) : ∃ g cap, v = .slice (some ⟨g, 0, none⟩) n cap ∧ base ≤ g ∧ g < w.heap.size ∧ n ≤ cap ∧ cap ≤ maxLen ∧ v.ownBlock = some g ∧ (∀ j, j < n * size → w.cell? ⟨g, j, none⟩ = xs[j]?) ∧ ∀ j, w.frozen? ⟨g, j, none⟩ = false := by
  rcases h.2 with ⟨rfl, rfl⟩ | ⟨g, cap, cur, rfl, hb, hg, h1, h2, h3, h4⟩
  · omega
  · exact ⟨g, cap, rfl, hb, (Array.getElem?_eq_some_iff.1 hg).1, h1, h2, rfl, fun j hj => h.cellAt j hj, fun j => h.frozenAt j⟩

theorem ownsRow_lt (h : w.ownsRow base e size v n xs) : ∀ g, v.ownBlock = some g → base ≤ g ∧ g < w.heap.size := h.lt

/-- kept by whatever leaves its block as it was -/
theorem ownsRow_below {B : Nat} (h : w.ownsRow base e size v n xs) (hb : Below B w w') (hB : ∀ g, v.ownBlock = some g → g < B) : w'.ownsRow base e size v n xs := by
  refine ⟨h.1, ?_⟩
  rcases h.2 with hn | ⟨g, cap, cur, rfl, hbg, hg, rest⟩
  · exact .inl hn
  · exact .inr ⟨g, cap, cur, rfl, hbg, (hb.block g (hB g rfl)).trans hg, rest⟩

theorem grown_set {a w : World} {g : Nat} (h : a.grownBy w (some g)) {p : Addr} (hp : p.block = g) (u : Value) : a.grownBy (w.setCell p u) (some g) :=
  ⟨h.os, h.tape, h.output, by simpa [World.setCell] using h.size, fun i hi hne => (Below.heap_setCell w p u i (by rintro rfl; exact hne (by rw [hp]))).trans (h.block i hi hne)⟩
theorem grown_alloc {a w : World} {row : Option Nat} (h : a.grownBy w row) (o : Obj) : a.grownBy (w.alloc o) row :=
  ⟨h.os, h.tape, h.output, Nat.le_trans h.size (by simp), fun i hi hne => (Below.heap_alloc w o i (Nat.lt_of_lt_of_le hi h.size)).trans (h.block i hi hne)⟩
theorem grown_below {a w w1 : World} {row : Option Nat} (h : a.grownBy w row) (hb : Below w.heap.size w w1) : a.grownBy w1 row :=
  ⟨hb.os.trans h.os, hb.tape.trans h.tape, hb.output.trans h.output, Nat.le_trans h.size hb.size, fun i hi hne => (hb.block i (Nat.lt_of_lt_of_le hi h.size)).trans (h.block i hi hne)⟩

/-- a block of cells, as it stands, none of them frozen -/
def Blk (w : World) (g : Nat) (t : TypeId) (cs : Array Value) : Prop := w.heap[g]? = some (.cells cs t (0, 0))
end

section
variable {w w' : World} {g : Nat} {t : TypeId} {cs : Array Value}
theorem Blk.lt (h : Blk w g t cs) : g < w.heap.size := (Array.getElem?_eq_some_iff.1 h).1
theorem Blk.cell (h : Blk w g t cs) (i : Nat) : w.cell? ⟨g, i, none⟩ = cs[i]? := cell_of_row w g i cs t (0, 0) h
theorem Blk.frozen (h : Blk w g t cs) (i : Nat) : w.frozen? ⟨g, i, none⟩ = false := by unfold Blk at h; simp [World.frozen?, h]
theorem Blk.new (w : World) (t : TypeId) (cs : Array Value) : Blk (w.alloc (.cells cs t)) w.heap.size t cs := heap_alloc_new w _
theorem Blk.alloc (h : Blk w g t cs) (o : Obj) : Blk (w.alloc o) g t cs := (Below.heap_alloc w o g h.lt).trans h
theorem Blk.set_ (h : Blk w g t cs) (i : Nat) (u : Value) : Blk (w.setCell ⟨g, i, none⟩ u) g t (cs.setIfInBounds i u) := by
  unfold Blk at h ⊢
  simp [World.setCell, Array.getElem?_modify, h]
theorem Blk.far (h : Blk w g t cs) {p : Addr} (hp : g ≠ p.block) (u : Value) : Blk (w.setCell p u) g t cs := (Below.heap_setCell w p u g hp).trans h
theorem Blk.below {B : Nat} (h : Blk w g t cs) (hb : Below B w w') (hg : g < B) : Blk w' g t cs := (hb.block g hg).trans h
theorem Blk.grown {row : Option Nat} (h : Blk w g t cs) (hb : w.grownBy w' row) (hg : some g ≠ row) : Blk w' g t cs := (hb.block g h.lt hg).trans h
theorem Blk.drewN (h : Blk w g t cs) (n : Nat) : Blk (w.drewN n) g t cs := h
end

end Go.Proofs.YteldkcpkamgfpaaDoor

namespace Go.Proofs.YteldkcpkamgfpaaDoor
set_option linter.unusedSimpArgs false
set_option linter.unusedVariables false
open Go.RowKit

theorem zeroCells_int (n : Nat) : (Builtin.zeroCells #[Value.int .i64 0] n).toList = List.replicate n (.int .i64 0) := by
  unfold Builtin.zeroCells
  apply List.ext_getElem
  · simp
  · intro i h1 h2
    simp [Nat.mod_one]

section
variable {P : Program} (w : World)

theorem run_append_zeros (t tx ty e : TypeId) (i : TypeInfo) (ht : P.underlying t = some (.slice e)) (hk : P.underlying tx = some (.int .i64)) (hi : P.info? e = some i) (hz : i.zero = some (.int .i64 0)) (hsz : i.size = 1) (hby : i.bytes = 8)
    (g : Nat) (x : Value) (hg : w.heap[g]? = some (.cells #[x] e (0, 0))) (m : Nat) (h1 : 1 ≤ m) (h7 : m ≤ 1000) :
    ∃ v' w', (Builtin.append_ #[t, tx] ty #[.slice (some ⟨g, 0, none⟩) 1 1, .int .i64 (m : Int)]).run P w = .ok v' w' ∧ w'.ownsRow w.heap.size e 1 v' (1 + m) (x :: List.replicate m (.int .i64 0)) ∧ w.grownBy w' none := by
  have hneed : ¬ (1 + m ≤ 1) := by omega
  have hc : w.cell? ⟨g, 0, none⟩ = some x := by rw [cell_of_row w g 0 #[x] e (0, 0) hg]; rfl
  have hcd : w.drew.cell? ⟨g, 0, none⟩ = some x := by rw [World.cell?_drew]; exact hc
  have hold : (Builtin.firstCells 1 1 (.slice (some ⟨g, 0, none⟩) 1 1)).run P w.drew = .ok #[x] w.drew := by
    have := run_firstCells_some (P := P) w.drew 1 1 ⟨g, 0, none⟩ 1 1 [x] rfl (fun j u hu => by
      cases j with
      | zero => simp at hu; subst hu; exact hcd
      | succ j => simp at hu)
    exact this
  have hw : IntKind.i64.wrap (m : Int) = m := IntWalk.i64_in _ (by omega)
  have hn1 : Builtin.nextslicecap (1 + m) 1 ≤ 2 * (1 + m) + 2 := by
    unfold Builtin.nextslicecap
    split
    · omega
    · rw [if_pos (by omega)]; omega
  have hn2 : ¬ (281474976710656 < Builtin.nextslicecap (1 + m) 1 * i.bytes) := by rw [hby]; omega
  have hneg : ¬ ((m : Int) < 0) := by omega
  have hbig : ¬ (281474976710656 < (m : Int) * i.bytes) := by rw [hby]; omega
  have hm0 : ¬ (m = 0) := by omega
  have h63 : ¬ (9223372036854775807 < 1 + (m : Int)) := by omega
  refine ⟨.slice (some ⟨w.heap.size, 0, none⟩) (1 + m) (grownCap w (1 + m) 1 e), w.drew.alloc (.cells (#[x] ++ Builtin.zeroCells #[Value.int .i64 0] m ++ Builtin.zeroCells #[Value.int .i64 0] (grownCap w (1 + m) 1 e - (1 + m))) e), ?_, ?_, ?_⟩
  · simp [Builtin.append_, run_underlying ht, run_underlying hk, sizeOf, typeInfo, zeroValue, hi, hz, hsz, hneed, hw, hneg, hbig, hm0, h63, hn2, Question.forced, hold, newRow, grownCap, asInt, asIntOf, Value.cells]
  · have hge := grownCap_ge w (1 + m) 1 e
    have hcm := grownCap_le_maxLen w (1 + m) 1 e (by unfold maxLen; omega)
    refine ⟨by simp; omega, .inr ⟨w.heap.size, _, _, rfl, Nat.le_refl _, heap_alloc_new w.drew _, hge, hcm, ?_, ?_⟩⟩
    · simp [size_zeroCells]; omega
    · simp only [Array.toList_append, zeroCells_int, Nat.mul_one]
      rw [List.take_append_of_le_length (by simp; omega)]
      rw [List.take_of_length_le (by simp; omega)]
      rfl
  · exact ⟨rfl, rfl, rfl, by simp, fun k hk _ => heap_alloc_old w.drew _ hk⟩

end

/-- an append whose run is known -/
theorem wpList_append_run {P : Program} {w w' : World} {v' : Value} {ops : Array Oper} {rest : List Oper} {o : Oper} {a : Act} {Q : Exit → Act → World → Prop} (hgd : o.guard = none) (s x : Operand) (t tx : TypeId)
    (ho : o.op = .call { callee := .builtin .append, args := #[s, x], argTypes := #[t, tx] }) (v y : Value) (hs : a.eval s = v) (hx : a.eval x = y)
    (hrun : (Builtin.append_ #[t, tx] o.type #[v, y]).run P w = .ok v' w') (h : wpList P ops Q rest (a.put o.dst v') w') : wpList P ops Q (o :: rest) a w := by
  refine wpList_plain hgd fun K hK => ?_
  unfold Oper.wp execOp
  simp only [ho, resolve, invoke, builtin, Sem.run_bind, Sem.run_pure, Result.andThen_ok, List.map_toArray, List.map_cons, List.map_nil, hs, hx, hrun]
  exact hK _ _ h

theorem run_make_zeros {P : Program} (t e : TypeId) (i : TypeInfo) (ht : P.underlying t = some (.slice e)) (hi : P.info? e = some i) (hz : i.zero = some (.int .i64 0)) (hsz : i.size = 1) (hby : i.bytes = 8) (n : Nat) (hn : n ≤ 1000) (w : World) :
    (Instr.makeSlice t (.int .i64 (n : Int)) (.int .i64 (n : Int))).run P w = .ok (.slice (some ⟨w.heap.size, 0, none⟩) n n) (w.alloc (.cells (List.replicate n (Value.int .i64 0)).toArray e)) := by
  have hb : (i.bytes : Int) * (n : Int) ≤ 281474976710656 := by rw [hby]; omega
  have hr := run_make (P := P) w t e i _ ht hi hz .i64 .i64 n n (by omega) (by omega) hb (by omega)
  simp only [Int.toNat_natCast] at hr
  rw [hr]
  congr 3
  rw [hsz, Nat.mul_one]
  apply Array.ext'
  rw [show (Value.int IntKind.i64 0).cells = #[Value.int .i64 0] from rfl, toList_madeCells_one]

end Go.Proofs.YteldkcpkamgfpaaDoor

namespace Go.Proofs.YteldkcpkamgfpaaDoor
set_option linter.unusedSimpArgs false
set_option linter.unusedVariables false
open Go.RowKit

section
variable {P : Program} (w : World)

theorem run_append_zero_row (base : Nat) (t tx ty e : TypeId) (i : TypeInfo) (z : Value) (size bytes : Nat) (ht : P.underlying t = some (.slice e)) (hk : P.underlying tx = some (.int .i64)) (hi : P.info? e = some i) (hz : i.zero = some z)
    (hsize : i.size = size) (hby : i.bytes = bytes) (hzs : z.cells.size = size) (hsz : 0 < size)
    (v : Value) (n : Nat) (xs : List Value) (hown : w.ownsRow base e size v n xs)
    (m : Nat) (hm : 0 < m) (h1 : ∀ u ∈ (Builtin.zeroCells z.cells m).toList, u.oneCell' = true)
    (h63 : n + m ≤ maxLen) (hbytes : (n + m) * bytes ≤ 140737488355328) (hbase : base ≤ w.heap.size) :
    ∃ v' w', (Builtin.append_ #[t, tx] ty #[v, .int .i64 (m : Int)]).run P w = .ok v' w' ∧ w'.ownsRow base e size v' (n + m) (xs ++ (Builtin.zeroCells z.cells m).toList) ∧ w.grownBy w' v.ownBlock ∧
      (v'.ownBlock = v.ownBlock ∨ v'.ownBlock = some w.heap.size) := by
  subst hsize
  subst hby
  have hsmall : n + m ≤ 9223372036854775807 := by simp only [maxLen] at h63; omega
  have hl : (Builtin.zeroCells z.cells m).toList.length = m * i.size := by simp [Builtin.zeroCells, hzs]
  have hlen : (xs ++ (Builtin.zeroCells z.cells m).toList).length = (n + m) * i.size := by rw [List.length_append, hown.1, hl, Nat.add_mul]
  have hw : IntKind.i64.wrap (m : Int) = m := IntWalk.i64_in _ (by omega)
  have hneg : ¬ ((m : Int) < 0) := by omega
  have hmb : m * i.bytes ≤ (n + m) * i.bytes := Nat.mul_le_mul_right _ (by omega)
  have hbig : ¬ (281474976710656 < (m : Int) * i.bytes) := by
    have : ((m * i.bytes : Nat) : Int) ≤ 140737488355328 := by omega
    rw [Int.natCast_mul] at this
    omega
  have h63' : ¬ (9223372036854775807 < (n : Int) + (m : Int)) := by omega
  obtain ⟨zc, hzc⟩ : ∃ zc, (Builtin.zeroCells z.cells m) = zc := ⟨_, rfl⟩
  rw [hzc] at hl hlen h1 ⊢
  have grown : ∀ (old : Nat), old < n + m → ∀ (row : Option Nat),
      (w.drew.alloc (.cells (xs.toArray ++ zc ++ Builtin.zeroCells z.cells (grownCap w (n + m) old e - (n + m))) e)).ownsRow base e i.size
        (.slice (some ⟨w.heap.size, 0, none⟩) (n + m) (grownCap w (n + m) old e)) (n + m) (xs ++ zc.toList) ∧
      w.grownBy (w.drew.alloc (.cells (xs.toArray ++ zc ++ Builtin.zeroCells z.cells (grownCap w (n + m) old e - (n + m))) e)) row := by
    intro old ho row
    have hge := grownCap_ge w (n + m) old e
    have hcm : grownCap w (n + m) old e ≤ maxLen := grownCap_le_maxLen w (n + m) old e h63
    have hl' : zc.size = m * i.size := by simpa using hl
    refine ⟨⟨hlen, .inr ⟨w.heap.size, _, _, rfl, hbase, heap_alloc_new w.drew _, hge, hcm, ?_, ?_⟩⟩, ⟨rfl, rfl, rfl, by simp, fun k hk _ => heap_alloc_old w.drew _ hk⟩⟩
    · simp only [Array.size_append, List.size_toArray, size_zeroCells, hzs, hown.1, hl', ← Nat.add_mul]
      congr 1
      omega
    · simp only [Array.toList_append, List.append_assoc]
      rw [← List.append_assoc, ← hlen]
      exact List.take_left
  have hms : ¬ (m * i.size = 0) := by
    intro h
    rcases Nat.mul_eq_zero.1 h with h | h <;> omega
  have hm0 : ¬ (m = 0) := by omega
  have hs0 : ¬ (i.size = 0) := by omega
  rcases hown.2 with ⟨rfl, rfl⟩ | ⟨g, cap, cur, rfl, hbg, hg, hnc, hcm, hcs, htake⟩
  · have hx : xs = [] := List.eq_nil_of_length_eq_zero (by simpa using hown.1)
    subst hx
    have hgr := grown 0 (by omega) (Value.ownBlock (.slice none 0 0))
    have hfit : ¬ (281474976710656 < Builtin.nextslicecap (0 + m) 0 * i.bytes) := by have := growslice_fits (bytes := i.bytes) (need := 0 + m) (old := 0) (by omega) hbytes; omega
    refine ⟨_, _, ?_, hgr.1, hgr.2, Or.inr rfl⟩
    simp only [Nat.zero_add] at hfit h63'
    simp [Builtin.append_, run_underlying ht, run_underlying hk, sizeOf, typeInfo, zeroValue, hi, hz, hw, hneg, hbig, hm0, hs0, hfit, Question.forced, newRow, grownCap, asInt, asIntOf, Builtin.firstCells, hzc]
    rw [if_neg (by omega), if_neg hms]
  · by_cases hroom : n + m ≤ cap
    · have hfit : n * i.size + zc.toList.length ≤ cur.size := by rw [hl, hcs, ← Nat.add_mul]; exact Nat.mul_le_mul_right _ hroom
      have hst := run_storeCells_at P g (n * i.size) e zc.toList 0 cur w hg (by simpa using hfit) h1
      simp only [Nat.add_zero] at hst
      refine ⟨.slice (some ⟨g, 0, none⟩) (n + m) cap, w.setRow g (cur.toList.take (n * i.size) ++ zc.toList ++ cur.toList.drop (n * i.size + zc.toList.length)).toArray, ?_, ⟨hlen, .inr ⟨g, cap, _, rfl, hbg, setRow_heap w g cur _ e _ hg, hroom, hcm, ?_, ?_⟩⟩, ⟨rfl, rfl, rfl, by simp, fun k _ hk => setRow_other w g k _ (fun e => hk (by simp [Value.ownBlock, e]))⟩, Or.inl rfl⟩
      · simp [Builtin.append_, run_underlying ht, run_underlying hk, sizeOf, typeInfo, zeroValue, hi, hz, hw, hneg, hbig, hm0, hs0, asInt, asIntOf, hzc, hroom, Addr.add_lit]
        rw [if_neg hms, hst]
        simp
      · simp only [List.size_toArray, List.length_append, List.length_take, List.length_drop, Array.length_toList] at hfit hl ⊢
        omega
      · rw [htake, ← hlen]
        exact List.take_left
    · have hgr := grown cap (by omega) (Value.ownBlock (.slice (some ⟨g, 0, none⟩) n cap))
      refine ⟨_, _, ?_, hgr.1, hgr.2, Or.inr rfl⟩
      have hfit : ¬ (281474976710656 < Builtin.nextslicecap (n + m) cap * i.bytes) := by have := growslice_fits (bytes := i.bytes) (need := n + m) (old := cap) (by omega) hbytes; omega
      have holds : ∀ j u, xs[j]? = some u → w.drew.cell? ((⟨g, 0, none⟩ : Addr).add j) = some u := hown.cells (g := g) rfl
      have hold := run_firstCells_some (P := P) w.drew i.size n ⟨g, 0, none⟩ n cap xs hown.1 holds
      simp [Builtin.append_, run_underlying ht, run_underlying hk, sizeOf, typeInfo, zeroValue, hi, hz, hw, hneg, hbig, hm0, hs0, hfit, Question.forced, newRow, grownCap, asInt, asIntOf, hzc, hroom]
      rw [if_neg (by omega), hold]
      simp [hms]

end
end Go.Proofs.YteldkcpkamgfpaaDoor

