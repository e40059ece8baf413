/- A part of the proof that the abstract interpreter is sound, and of the two goroutines of the lexer. -/
import Derived.Test.YticjebnbcnphkaaGreatDoorZLiftX
import Derived.Test.YticjebnbcnphkaaGreatDoorZAiK
import Derived.Test.YticjebnbcnphkaaGreatDoorProg
import Derived.KernelRfl

set_option linter.unusedSimpArgs false
set_option linter.unusedVariables false
set_option linter.unusedSectionVars false

namespace Go.Lift
open Go.Conc Go.Proofs

def orv (c : Nat) : Int := IntKind.u8.wrap (BitVec.ofInt 8 (c : Int) ||| BitVec.ofInt 8 32).toNat
theorem orv_word : ∀ c < 256, Ai.isW c = ((decide (orv c ≥ 97) && decide (orv c ≤ 122)) || (decide ((c : Int) ≥ 48) && decide ((c : Int) ≤ 57)) || ((c : Int) == 95)) := by decide +kernel

/-- what a pure call leaves -/
def Pure (v : Value) (O : Own) (w : World) : Value → Own → World → Prop := fun v' O' w' => v' = v ∧ O' = O ∧ w' = w

theorem yv_orv {P : Program} {S : List (Nat × Value)} {o : Oper} {t u : TypeId} {x : Operand} {c : Nat} (ho : o.op = .binOp .or t x (.const (.int .u8 32)) u) (hx : evS S x = .int .u8 c) : Yv P S o (.int .u8 (orv c)) := yv_or ho hx rfl

theorem look1 {s : Nat} {x : Value} {t : Nat} {v : Value} (h : look [(s, x)] t = some v) : t = s ∧ v = x := by
  simp only [look] at h
  split at h
  · exact ⟨by assumption, by cases h; rfl⟩
  · cases h

set_option maxRecDepth 100000 in
set_option maxHeartbeats 1000000 in
theorem word_c (c : Nat) (hc : c < 256) (O : Own) (w : World) : CallsO Tryz.prog false 116 #[.int .u8 c] O w (Pure (.bool (Ai.isW c)) O w) := by
  rw [orv_word c hc]
  refine callsO_S (c := _) [(0, .int .u8 c)] Tryz.func116 rfl (Nat.le_of_ble_eq_true rfl) (fun t v h => by obtain ⟨rfl, rfl⟩ := look1 h; rfl) fun a hS => ?_
  refine wpO_seq (wpO_region (Yv.use hS rfl rfl rfl rfl (by decide) (yv_move (.inr rfl) rfl) fun a hS => opsO_nil ?_))
  refine wpO_seq (wpO_region ?_)
  all_goals (refine Yv.use hS rfl rfl rfl rfl (by decide) (yv_move (.inl rfl) rfl) fun a hS => ?_)
  all_goals (refine Yv.use hS rfl rfl rfl rfl (by decide) (yv_orv (c := c) rfl rfl) fun a hS => ?_)
  all_goals (cases h1 : decide (orv c ≥ 97) <;> refine Yv.use hS rfl rfl rfl rfl (by decide) (yv_cmp rfl rfl rfl (congrArg some h1)) fun a hS => ?_)
  all_goals (refine Yv.use hS rfl rfl rfl rfl (by decide) (yv_move (.inl rfl) rfl) fun a hS => ?_)
  all_goals first | (refine opsS_skip hS rfl rfl rfl (by decide) fun a hS => ?_) | (refine Yv.use hS rfl rfl rfl rfl (by decide) (yv_move (.inl rfl) rfl) fun a hS => ?_)
  all_goals first | (refine opsS_skip hS rfl rfl rfl (by decide) fun a hS => ?_) | (refine Yv.use hS rfl rfl rfl rfl (by decide) (yv_orv (c := c) rfl rfl) fun a hS => ?_)
  all_goals first | (refine opsS_skip hS rfl rfl rfl (by decide) fun a hS => ?_) | (cases h2 : decide (orv c ≤ 122) <;> refine Yv.use hS rfl rfl rfl rfl (by decide) (yv_cmp rfl rfl rfl (congrArg some h2)) fun a hS => ?_)
  all_goals (refine Yv.use hS rfl rfl rfl rfl (by decide) (yv_pick rfl rfl rfl) fun a hS => ?_)
  all_goals (refine Yv.use hS rfl rfl rfl rfl (by decide) (yv_move (.inl rfl) rfl) fun a hS => ?_)
  all_goals first | (refine opsS_skip hS rfl rfl rfl (by decide) fun a hS => ?_) | (refine Yv.use hS rfl rfl rfl rfl (by decide) (yv_move (.inl rfl) rfl) fun a hS => ?_)
  all_goals first | (refine opsS_skip hS rfl rfl rfl (by decide) fun a hS => ?_) | (cases h3 : decide ((c : Int) ≥ 48) <;> refine Yv.use hS rfl rfl rfl rfl (by decide) (yv_cmp rfl rfl rfl (congrArg some h3)) fun a hS => ?_)
  all_goals first | (refine opsS_skip hS rfl rfl rfl (by decide) fun a hS => ?_) | (refine Yv.use hS rfl rfl rfl rfl (by decide) (yv_move (.inl rfl) rfl) fun a hS => ?_)
  all_goals first | (refine opsS_skip hS rfl rfl rfl (by decide) fun a hS => ?_) | (refine Yv.use hS rfl rfl rfl rfl (by decide) (yv_move (.inl rfl) rfl) fun a hS => ?_)
  all_goals first | (refine opsS_skip hS rfl rfl rfl (by decide) fun a hS => ?_) | (cases h4 : decide ((c : Int) ≤ 57) <;> refine Yv.use hS rfl rfl rfl rfl (by decide) (yv_cmp rfl rfl rfl (congrArg some h4)) fun a hS => ?_)
  all_goals first | (refine opsS_skip hS rfl rfl rfl (by decide) fun a hS => ?_) | (refine Yv.use hS rfl rfl rfl rfl (by decide) (yv_pick rfl rfl rfl) fun a hS => ?_)
  all_goals (refine Yv.use hS rfl rfl rfl rfl (by decide) (yv_pick rfl rfl rfl) fun a hS => ?_)
  all_goals (refine Yv.use hS rfl rfl rfl rfl (by decide) (yv_move (.inl rfl) rfl) fun a hS => ?_)
  all_goals first | (refine opsS_skip hS rfl rfl rfl (by decide) fun a hS => ?_) | (refine Yv.use hS rfl rfl rfl rfl (by decide) (yv_move (.inl rfl) rfl) fun a hS => ?_)
  all_goals first | (refine opsS_skip hS rfl rfl rfl (by decide) fun a hS => ?_) | (cases h5 : ((c : Int) == 95) <;> refine Yv.use hS rfl rfl rfl rfl (by decide) (yv_cmp rfl rfl rfl (congrArg some h5)) fun a hS => ?_)
  all_goals (refine Yv.use hS rfl rfl rfl rfl (by decide) (yv_pick rfl rfl rfl) fun a hS => ?_)
  all_goals (refine Yv.use hS rfl rfl rfl rfl (by decide) (yv_move (.inr rfl) rfl) fun a hS => ?_)
  all_goals exact opsO_nil (wpO_ret (res_tmp (t := 2) hS rfl rfl ⟨by first | rfl | (simp only [*]; rfl) | simp [*], rfl, rfl⟩))
end Go.Lift
