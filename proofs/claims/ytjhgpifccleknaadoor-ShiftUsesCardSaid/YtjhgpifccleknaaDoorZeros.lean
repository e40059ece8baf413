/- An append of a made slice of zeros, as the translation has it ('append(x, make([]int, n)...)'), onto a full row of one number; and a made slice of zeros. No function of the program is named here. -/
import Derived.Test.YtjhgpifccleknaaDoorBase
import Derived.Laws.MakeOwn
namespace Go.Proofs.YtjhgpifccleknaaDoor
set_option linter.unusedSimpArgs false
set_option linter.unusedVariables false
open Go.RowKit

theorem zeroCells_int (n : Nat) : (Builtin.zeroCells #[Value.int .i64 0] n).toList = List.replicate n (.int .i64 0) := by
  unfold Builtin.zeroCells
  apply List.ext_getElem
  · simp
  · intro i h1 h2
    simp [Nat.mod_one]

section
variable {P : Program} (w : World)

theorem run_append_zeros (t tx ty e : TypeId) (i : TypeInfo) (ht : P.underlying t = some (.slice e)) (hk : P.underlying tx = some (.int .i64)) (hi : P.info? e = some i) (hz : i.zero = some (.int .i64 0)) (hsz : i.size = 1) (hby : i.bytes = 8)
    (g : Nat) (x : Value) (hg : w.heap[g]? = some (.cells #[x] e (0, 0))) (m : Nat) (h1 : 1 ≤ m) (h7 : m ≤ 1000) :
    ∃ v' w', (Builtin.append_ #[t, tx] ty #[.slice (some ⟨g, 0, none⟩) 1 1, .int .i64 (m : Int)]).run P w = .ok v' w' ∧ w'.ownsRow w.heap.size e 1 v' (1 + m) (x :: List.replicate m (.int .i64 0)) ∧ w.grownBy w' none := by
  have hneed : ¬ (1 + m ≤ 1) := by omega
  have hc : w.cell? ⟨g, 0, none⟩ = some x := by rw [cell_of_row w g 0 #[x] e (0, 0) hg]; rfl
  have hcd : w.drew.cell? ⟨g, 0, none⟩ = some x := by rw [World.cell?_drew]; exact hc
  have hold : (Builtin.firstCells 1 1 (.slice (some ⟨g, 0, none⟩) 1 1)).run P w.drew = .ok #[x] w.drew := by
    have := run_firstCells_some (P := P) w.drew 1 1 ⟨g, 0, none⟩ 1 1 [x] rfl (fun j u hu => by
      cases j with
      | zero => simp at hu; subst hu; exact hcd
      | succ j => simp at hu)
    exact this
  have hw : IntKind.i64.wrap (m : Int) = m := IntWalk.i64_in _ (by omega)
  have hn1 : Builtin.nextslicecap (1 + m) 1 ≤ 2 * (1 + m) + 2 := by
    unfold Builtin.nextslicecap
    split
    · omega
    · rw [if_pos (by omega)]; omega
  have hn2 : ¬ (281474976710656 < Builtin.nextslicecap (1 + m) 1 * i.bytes) := by rw [hby]; omega
  have hneg : ¬ ((m : Int) < 0) := by omega
  have hbig : ¬ (281474976710656 < (m : Int) * i.bytes) := by rw [hby]; omega
  have hm0 : ¬ (m = 0) := by omega
  have h63 : ¬ (9223372036854775807 < 1 + (m : Int)) := by omega
  refine ⟨.slice (some ⟨w.heap.size, 0, none⟩) (1 + m) (grownCap w (1 + m) 1 e), w.drew.alloc (.cells (#[x] ++ Builtin.zeroCells #[Value.int .i64 0] m ++ Builtin.zeroCells #[Value.int .i64 0] (grownCap w (1 + m) 1 e - (1 + m))) e), ?_, ?_, ?_⟩
  · simp [Builtin.append_, run_underlying ht, run_underlying hk, sizeOf, typeInfo, zeroValue, hi, hz, hsz, hneed, hw, hneg, hbig, hm0, h63, hn2, Question.forced, hold, newRow, grownCap, asInt, asIntOf, Value.cells]
  · have hge := grownCap_ge w (1 + m) 1 e
    have hcm := grownCap_le_maxLen w (1 + m) 1 e (by unfold maxLen; omega)
    refine ⟨by simp; omega, .inr ⟨w.heap.size, _, _, rfl, Nat.le_refl _, heap_alloc_new w.drew _, hge, hcm, ?_, ?_⟩⟩
    · simp [size_zeroCells]; omega
    · simp only [Array.toList_append, zeroCells_int, Nat.mul_one]
      rw [List.take_append_of_le_length (by simp; omega)]
      rw [List.take_of_length_le (by simp; omega)]
      rfl
  · exact ⟨rfl, rfl, rfl, by simp, fun k hk _ => heap_alloc_old w.drew _ hk⟩

end

/-- an append whose run is known -/
theorem wpList_append_run {P : Program} {w w' : World} {v' : Value} {ops : Array Oper} {rest : List Oper} {o : Oper} {a : Act} {Q : Exit → Act → World → Prop} (hgd : o.guard = none) (s x : Operand) (t tx : TypeId)
    (ho : o.op = .call { callee := .builtin .append, args := #[s, x], argTypes := #[t, tx] }) (v y : Value) (hs : a.eval s = v) (hx : a.eval x = y)
    (hrun : (Builtin.append_ #[t, tx] o.type #[v, y]).run P w = .ok v' w') (h : wpList P ops Q rest (a.put o.dst v') w') : wpList P ops Q (o :: rest) a w := by
  refine wpList_plain hgd fun K hK => ?_
  unfold Oper.wp execOp
  simp only [ho, resolve, invoke, builtin, Sem.run_bind, Sem.run_pure, Result.andThen_ok, List.map_toArray, List.map_cons, List.map_nil, hs, hx, hrun]
  exact hK _ _ h

theorem run_make_zeros {P : Program} (t e : TypeId) (i : TypeInfo) (ht : P.underlying t = some (.slice e)) (hi : P.info? e = some i) (hz : i.zero = some (.int .i64 0)) (hsz : i.size = 1) (hby : i.bytes = 8) (n : Nat) (hn : n ≤ 1000) (w : World) :
    (Instr.makeSlice t (.int .i64 (n : Int)) (.int .i64 (n : Int))).run P w = .ok (.slice (some ⟨w.heap.size, 0, none⟩) n n) (w.alloc (.cells (List.replicate n (Value.int .i64 0)).toArray e)) := by
  have hb : (i.bytes : Int) * (n : Int) ≤ 281474976710656 := by rw [hby]; omega
  have hr := run_make (P := P) w t e i _ ht hi hz .i64 .i64 n n (by omega) (by omega) hb (by omega)
  simp only [Int.toNat_natCast] at hr
  rw [hr]
  congr 3
  rw [hsz, Nat.mul_one]
  apply Array.ext'
  rw [show (Value.int IntKind.i64 0).cells = #[Value.int .i64 0] from rfl, toList_madeCells_one]

end Go.Proofs.YtjhgpifccleknaaDoor
