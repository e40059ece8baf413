/- Words for memory that all walks of this seat share: a slice as it reads ('RowAt'), what a call leaves as it was ('Below'), and an append onto a row of the call's own. No function of the program is named here. -/
import Derived.WalkKit
import Derived.WalkSpells
import Derived.WalkLawsBesides
import Derived.Lib.Hide
import Derived.Deep.Draws
import Derived.Maps.AppendAt
namespace Go.Proofs.YtjhgpifccleknaaDoor
set_option linter.unusedSimpArgs false
set_option linter.unusedVariables false
open Go.RowKit

theorem ret_bool {a b : Bool} (h : a = b) : Ending.returned (.bool a) = .returned (.bool b) := by rw [h]
theorem ret_int {k : IntKind} {a b : Int} (h : a = b) : Ending.returned (.int k a) = .returned (.int k b) := by rw [h]

theorem below_drewN {B : Nat} {a w : World} (h : Below B a w) (n : Nat) : Below B a (w.drewN n) := ⟨h.os, h.tape, h.output, h.size, h.block⟩

/-- the slice value v reads, in w, as n elements whose cells, one behind the other, are cs (size cells an element) -/
structure RowAt (w : World) (size : Nat) (v : Value) (n : Nat) (cs : List Value) : Prop where
  len : cs.length = n * size
  form : ∃ a cap, v = .slice a n cap ∧ n ≤ cap ∧ cap ≤ maxLen ∧ (0 < n → ∃ b off, a = some ⟨b, off, none⟩ ∧ b < w.heap.size ∧ ∀ j u, cs[j]? = some u → w.cell? ⟨b, off + j, none⟩ = some u)

section
variable {w w' : World} {size n : Nat} {v : Value} {cs : List Value}

theorem RowAt.nil (w : World) (size : Nat) : RowAt w size (.slice none 0 0) 0 [] :=
  ⟨by simp, none, 0, rfl, Nat.le_refl _, by unfold maxLen; omega, fun h => absurd h (by omega)⟩

theorem RowAt.pos (h : RowAt w size v n cs) (hn : 0 < n) :
    ∃ b off cap, v = .slice (some ⟨b, off, none⟩) n cap ∧ n ≤ cap ∧ cap ≤ maxLen ∧ b < w.heap.size ∧ ∀ j u, cs[j]? = some u → w.cell? ⟨b, off + j, none⟩ = some u := by
  obtain ⟨a, cap, rfl, h1, h2, h3⟩ := h.form
  obtain ⟨b, off, rfl, hb, hc⟩ := h3 hn
  exact ⟨b, off, cap, rfl, h1, h2, hb, hc⟩

theorem RowAt.small (h : RowAt w size v n cs) : n ≤ maxLen := by
  obtain ⟨a, cap, rfl, h1, h2, h3⟩ := h.form
  omega

theorem RowAt.keep (h : RowAt w size v n cs) (hs : w.heap.size ≤ w'.heap.size) (hk : ∀ p : Addr, p.block < w.heap.size → w'.cell? p = w.cell? p) : RowAt w' size v n cs := by
  obtain ⟨a, cap, rfl, h1, h2, h3⟩ := h.form
  refine ⟨h.len, a, cap, rfl, h1, h2, fun hn => ?_⟩
  obtain ⟨b, off, rfl, hb, hc⟩ := h3 hn
  exact ⟨b, off, rfl, by omega, fun j u hu => (hk _ hb).trans (hc j u hu)⟩

theorem RowAt.below (h : RowAt w size v n cs) (hb : Below w.heap.size w w') : RowAt w' size v n cs :=
  h.keep hb.size fun _ hp => hb.cell hp

theorem RowAt.alloc (h : RowAt w size v n cs) (o : Obj) : RowAt (w.alloc o) size v n cs :=
  h.below ((Below.refl _ _).alloc (Nat.le_refl _) o)

theorem RowAt.drew (h : RowAt w size v n cs) : RowAt w.drew size v n cs := ⟨h.len, h.form⟩
theorem RowAt.drewN (h : RowAt w size v n cs) (k : Nat) : RowAt (w.drewN k) size v n cs := ⟨h.len, h.form⟩

theorem RowAt.of_own {base : Nat} {e : TypeId} (h : w.ownsRow base e size v n cs) : RowAt w size v n cs := by
  refine ⟨h.1, ?_⟩
  rcases h.2 with ⟨rfl, rfl⟩ | ⟨g, cap, cur, rfl, hb, hg, h1, h2, h3, h4⟩
  · exact ⟨none, 0, rfl, Nat.le_refl _, by unfold maxLen; omega, fun h => absurd h (by omega)⟩
  · refine ⟨_, cap, rfl, h1, h2, fun hn => ⟨g, 0, rfl, (Array.getElem?_eq_some_iff.1 hg).1, fun j u hu => ?_⟩⟩
    have := h.cells (g := g) rfl j u hu
    have hadd : (⟨g, 0, none⟩ : Addr).add j = ⟨g, 0 + j, none⟩ := by unfold Addr.add; split <;> simp_all
    rw [hadd] at this
    exact this

/-- a block that a literal has laid, as a slice -/
theorem RowAt.lit (w : World) (e : TypeId) (xs : Array Value) (n : Nat) (hs : xs.size = n * size) (hn : n ≤ maxLen) :
    RowAt (w.alloc (.cells xs e)) size (.slice (some ⟨w.heap.size, 0, none⟩) n n) n xs.toList :=
  RowAt.of_own (World.ownsRow_lit (base := 0) (e := e) w xs n (Nat.zero_le _) hn hs)

end

section
variable {P : Program} {w : World}

theorem run_append_zero (base : Nat) (t ty e : TypeId) (i : TypeInfo) (size : Nat) (ht : P.underlying t = some (.slice e)) (hi : P.info? e = some i)
    (v : Value) (n : Nat) (xs : List Value) (hown : w.ownsRow base e size v n xs) (c : Nat) : (Builtin.append_ #[t, t] ty #[v, .slice none 0 c]).run P w = .ok v w := by
  rcases hown.2 with ⟨rfl, rfl⟩ | ⟨g, cap, cur, rfl, _, _, hnc, _⟩
  · simp [Builtin.append_, run_underlying ht, sizeOf, typeInfo, hi, Builtin.lenOf, Builtin.firstCells]
  · simp [Builtin.append_, run_underlying ht, sizeOf, typeInfo, hi, Builtin.lenOf, Builtin.firstCells, hnc, storeCells]

/-- an append onto a row of the call's own, whatever slice the source is -/
theorem run_append_row (base : Nat) (t ty e : TypeId) (i : TypeInfo) (z : Value) (size bytes : Nat) (ht : P.underlying t = some (.slice e)) (hi : P.info? e = some i) (hz : i.zero = some z)
    (hsize : i.size = size) (hby : i.bytes = bytes) (hzs : z.cells.size = size) (hsz : 0 < size)
    (v : Value) (n : Nat) (xs : List Value) (hown : w.ownsRow base e size v n xs)
    (x : Value) (m : Nat) (news : List Value) (hr : RowAt w size x m news) (h1 : ∀ u ∈ news, u.oneCell' = true)
    (hbytes : (n + m) * bytes ≤ 140737488355328) (h63 : n + m ≤ maxLen) (hbase : base ≤ w.heap.size) :
    ∃ v' w', (Builtin.append_ #[t, t] ty #[v, x]).run P w = .ok v' w' ∧ w'.ownsRow base e size v' (n + m) (xs ++ news) ∧ w.grownBy w' v.ownBlock ∧
      (v'.ownBlock = v.ownBlock ∨ v'.ownBlock = some w.heap.size) := by
  obtain ⟨a, cap, rfl, hc1, hc2, hc3⟩ := hr.form
  rcases Nat.eq_zero_or_pos m with h0 | h0
  · subst h0
    obtain rfl : news = [] := List.eq_nil_of_length_eq_zero (by simpa using hr.len)
    rcases a with _ | ad
    · exact ⟨v, w, run_append_zero base t ty e i size ht hi v n xs hown cap, by simpa using hown, World.grownBy.refl w _, .inl rfl⟩
    · obtain ⟨v', w', hrun, h2, h3, _, h5⟩ := run_append_own_at (P := P) w base t ty e i z size bytes ht hi hz hsize hby hzs hsz v n xs hown ad 0 cap [] hr.len (fun j u hu => by simp at hu) h1 h63 hbytes hbase
      exact ⟨v', w', hrun, h2, h3, h5⟩
  · obtain ⟨b, off, rfl, hb, hcell⟩ := hc3 h0
    have hadd : ∀ j, (⟨b, off, none⟩ : Addr).add j = ⟨b, off + j, none⟩ := by intro j; unfold Addr.add; split <;> simp_all
    obtain ⟨v', w', hrun, h2, h3, _, h5⟩ := run_append_own_at (P := P) w base t ty e i z size bytes ht hi hz hsize hby hzs hsz v n xs hown ⟨b, off, none⟩ m cap news hr.len
      (fun j u hu => by rw [hadd]; exact hcell j u hu) h1 h63 hbytes hbase
    exact ⟨v', w', hrun, h2, h3, h5⟩

theorem wpList_append_row {ops : Array Oper} {rest : List Oper} {o : Oper} {a : Act} {Q : Exit → Act → World → Prop} (hgd : o.guard = none) (s x : Operand) (t : TypeId)
    (ho : o.op = .call { callee := .builtin .append, args := #[s, x], argTypes := #[t, t] })
    (base : Nat) (e : TypeId) (i : TypeInfo) (z : Value) (size bytes : Nat) (ht : P.underlying t = some (.slice e)) (hi : P.info? e = some i) (hz : i.zero = some z)
    (hsize : i.size = size) (hby : i.bytes = bytes) (hzs : z.cells.size = size) (hsz : 0 < size)
    (v : Value) (n : Nat) (xs : List Value) (hs : a.eval s = v) (hown : w.ownsRow base e size v n xs)
    (y : Value) (m : Nat) (news : List Value) (hx : a.eval x = y) (hr : RowAt w size y m news) (h1 : ∀ u ∈ news, u.oneCell' = true)
    (hbytes : (n + m) * bytes ≤ 140737488355328) (h63 : n + m ≤ maxLen) (hbase : base ≤ w.heap.size)
    (h : ∀ v' w', w'.ownsRow base e size v' (n + m) (xs ++ news) → w.grownBy w' v.ownBlock → (v'.ownBlock = v.ownBlock ∨ v'.ownBlock = some w.heap.size) → wpList P ops Q rest (a.put o.dst v') w') : wpList P ops Q (o :: rest) a w := by
  refine wpList_plain hgd fun K hK => ?_
  obtain ⟨v', w', hrun, h2, h3, h4⟩ := run_append_row (P := P) base t o.type e i z size bytes ht hi hz hsize hby hzs hsz v n xs hown y m news hr h1 hbytes h63 hbase
  unfold Oper.wp execOp
  simp only [ho, resolve, invoke, builtin, Sem.run_bind, Sem.run_pure, Result.andThen_ok, List.map_toArray, List.map_cons, List.map_nil, hs, hx, hrun]
  exact hK _ _ (h v' w' h2 h3 h4)

end

/-- a slice of ints, as it reads -/
def ReadI (w : World) (v : Value) (l : List Int) : Prop := RowAt w 1 v l.length (l.map (.int .i64))

section
variable {w w' : World} {v : Value} {l : List Int}
theorem ReadI.below (h : ReadI w v l) (hb : Below w.heap.size w w') : ReadI w' v l := RowAt.below h hb
theorem ReadI.alloc (h : ReadI w v l) (o : Obj) : ReadI (w.alloc o) v l := RowAt.alloc h o
theorem ReadI.cases (h : ReadI w v l) : l.length ≤ maxLen ∧ ((l = [] ∧ ∃ a cap, v = .slice a 0 cap) ∨
    ∃ b off cap, v = .slice (some ⟨b, off, none⟩) l.length cap ∧ b < w.heap.size ∧ ∀ i, i < l.length → w.cell? ⟨b, off + i, none⟩ = some (.int .i64 (l.getD i 0))) := by
  refine ⟨h.small, ?_⟩
  by_cases h0 : l = []
  · subst h0
    obtain ⟨a, cap, rfl, _⟩ := h.form
    exact .inl ⟨rfl, a, cap, rfl⟩
  · obtain ⟨b, off, cap, rfl, _, _, hb, hc⟩ := RowAt.pos h (List.length_pos_iff.2 h0)
    refine .inr ⟨b, off, cap, rfl, hb, fun i hi => hc i _ ?_⟩
    simp [List.getD_eq_getElem?_getD, List.getElem?_eq_getElem hi]
theorem ReadI.len_slice (h : ReadI w v l) : ∃ a cap, v = .slice a l.length cap := by
  obtain ⟨a, cap, rfl, _⟩ := h.form
  exact ⟨a, cap, rfl⟩
theorem ReadI.lit (w : World) (e : TypeId) (l : List Int) (hl : l.length ≤ maxLen) : ReadI (w.alloc (.cells (l.map (Value.int .i64)).toArray e)) (.slice (some ⟨w.heap.size, 0, none⟩) l.length l.length) l := by
  have := RowAt.lit (size := 1) w e (l.map (Value.int .i64)).toArray l.length (by simp) hl
  simpa [ReadI] using this
end

end Go.Proofs.YtjhgpifccleknaaDoor
