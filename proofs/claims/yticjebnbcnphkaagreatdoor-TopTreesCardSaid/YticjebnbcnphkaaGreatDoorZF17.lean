/- A part of the proof that the abstract interpreter is sound, and of the two goroutines of the lexer. -/
import Derived.Test.YticjebnbcnphkaaGreatDoorZF12
import Derived.Test.YticjebnbcnphkaaGreatDoorZIbs

set_option linter.unusedSimpArgs false
set_option linter.unusedVariables false
set_option linter.unusedSectionVars false

namespace Go.Ai
open Go Go.Proofs

section gen
variable {P : Program} {G : Goal P}
theorem Goal.steps {n : Nat} {m m' : Machine} (h : Steps P m m') (k : G.ok n m') : G.ok n m := by
  obtain ⟨k', hk'⟩ := h
  induction k' generalizing m with
  | zero => cases hk'; exact k
  | succ q ih =>
    simp only [runN] at hk'
    cases h1 : step P m with
    | next m1 => rw [h1] at hk'; exact G.back h1 (ih hk')
    | _ => rw [h1] at hk'; cases hk'

/-- a call's contract, of a call that leaves what was there -/
theorem calls_callS {g : FuncId} {args : List AV} {A : AH} {K H : KV} {u : AV} (hE : Enters P g) (hK : K u A = true)
    (h : ∀ σ w vs, VRels σ args vs.toList → Rel σ A w → Calls P g vs w fun e w' => ∃ x, e = .returned x ∧ VRel σ u x ∧ (∀ k, k < w.heap.size → w'.heap[k]? = w.heap[k]?) ∧ w.heap.size ≤ w'.heap.size ∧ w'.os = w.os ∧ w'.output = w.output) : CallS G g args A K H := by
  refine ⟨hE, fun σ w vs c cs hvs hA hKV _ => ?_⟩
  obtain ⟨e, w', fr, ⟨x, rfl, hx, h1, h2, h3, h4⟩, hst, _, hl⟩ := h σ w vs hvs hA (c :: cs)
  obtain ⟨hA', hX⟩ := hA.same h1 h2 h3 h4
  exact Goal.steps hst (G.back (step_leave_returned hl) (hKV u A σ x w' hK hX hA' hx))
end gen

variable {G : Goal Tryz.prog}

theorem u8_beq {x c : Nat} (hx : x < 256) (hc : c < 256) : (UInt8.ofNat x == UInt8.ofNat c) = Nat.beq x c := by
  cases hb : Nat.beq x c with
  | true => rw [Nat.eq_of_beq_eq_true hb]; simp
  | false =>
    rw [beq_eq_false_iff_ne]
    intro e
    have := congrArg UInt8.toNat e
    simp at this
    rw [Nat.mod_eq_of_lt hx, Nat.mod_eq_of_lt hc] at this
    rw [this, Nat.beq_refl] at hb; cases hb

theorem idxByte_rel (σ : Sub) {c : Nat} (hc : c < 256) : ∀ (s : List Nat) (i : Nat), (∀ x ∈ s, x < 256) →
    VRel σ (idxByte c s i) (.int .i64 (if Lib.indexByte (s.map UInt8.ofNat) (UInt8.ofNat c) == -1 then -1 else Lib.indexByte (s.map UInt8.ofNat) (UInt8.ofNat c) + i))
  | [], i, _ => .neg .i64 0
  | x :: s, i, h => by
    have ih := idxByte_rel σ hc s (i + 1) fun y hy => h y (by simp [hy])
    have hx := u8_beq (h x (by simp)) hc
    simp only [List.map_cons, Lib.indexByte, hx, idxByte]
    cases hb : Nat.beq x c with
    | true =>
      simp only [if_true, cond_true]
      have : ((0 : Int) == -1) = false := by decide
      rw [this]
      simp only [Bool.false_eq_true, if_false, Int.zero_add]
      exact .nat .i64 i
    | false =>
      simp only [Bool.false_eq_true, if_false, cond_false]
      have hge := Lib.indexByte_ge (s.map UInt8.ofNat) (UInt8.ofNat c)
      generalize Lib.indexByte (s.map UInt8.ofNat) (UInt8.ofNat c) = r at ih hge
      cases hr : (r == -1) with
      | true =>
        rw [hr] at ih
        simpa using ih
      | false =>
        rw [hr] at ih
        have hne : r ≠ -1 := beq_eq_false_iff_ne.1 hr
        have h1 : ((r + 1 == -1) : Bool) = false := by rw [beq_eq_false_iff_ne]; omega
        simp only [Bool.false_eq_true, if_false, h1] at ih ⊢
        have : r + 1 + (i : Int) = r + ((i + 1 : Nat) : Int) := by simp; omega
        rw [this]; exact ih

theorem enters195 : Enters Tryz.prog 195 := ⟨Tryz.f195, by kernel_rfl, rfl, by rfl⟩

theorem ibs_sound (args : List AV) (A : AH) (K H : KV) (hk : sIbs args A K = true) : CallS G 195 args A K H := by
  unfold sIbs at hk
  split at hk
  case h_2 => cases hk
  rename_i sv cv
  obtain ⟨s, e1, h1⟩ := asStr_t.1 hk
  obtain ⟨k, c, e2, h2⟩ := asNat_t.1 h1
  obtain ⟨h3, h4⟩ := and_t.1 h2
  obtain ⟨h5, hK⟩ := and_t.1 h4
  have hkk := kEq_t.1 h3
  have hc : c < 256 := by simpa using h5
  subst e1; subst e2; subst hkk
  refine calls_callS enters195 hK fun σ w vs hvs hA => ?_
  obtain ⟨x, y, rfl, hx, hy⟩ : ∃ x y, vs = #[x, y] ∧ VRel σ (.str s) x ∧ VRel σ (.nat .u8 c) y := by
    generalize hl : vs.toList = l at hvs
    cases hvs with
    | cons h hs =>
      cases hs with
      | cons h2 hs2 =>
        cases hs2
        exact ⟨_, _, Array.toList_inj.1 (by rw [hl]), h, h2⟩
  obtain ⟨ex, hs⟩ := str_inv hx
  have ey := nat_inv hy
  subst ex; subst ey
  refine (Tryz.stringslite_IndexByte (AV.bytes s) (Int.ofNat c) w).mono fun e w' h => ?_
  obtain ⟨rfl, rfl⟩ := h
  refine ⟨_, rfl, ?_, fun _ _ => rfl, Nat.le_refl _, rfl, rfl⟩
  have hr := idxByte_rel σ hc s 0 hs
  have e1 : (AV.bytes s).data.toList = s.map UInt8.ofNat := by simp [AV.bytes]
  have e2 : (Int.ofNat c).toNat.toUInt8 = UInt8.ofNat c := rfl
  rw [e1, e2]
  have : (if Lib.indexByte (s.map UInt8.ofNat) (UInt8.ofNat c) == -1 then (-1 : Int) else Lib.indexByte (s.map UInt8.ofNat) (UInt8.ofNat c) + (0 : Nat)) = Lib.indexByte (s.map UInt8.ofNat) (UInt8.ofNat c) := by
    cases h : (Lib.indexByte (s.map UInt8.ofNat) (UInt8.ofNat c) == -1) with
    | true => have := eq_of_beq h; simp [this]
    | false => simp
  rw [← this]; exact hr
end Go.Ai
