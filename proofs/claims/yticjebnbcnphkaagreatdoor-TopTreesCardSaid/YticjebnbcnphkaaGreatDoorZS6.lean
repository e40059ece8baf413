/- A part of the proof that the abstract interpreter is sound, and of the two goroutines of the lexer. -/
import Derived.Test.YticjebnbcnphkaaGreatDoorZS3
import Derived.Lib.Strings

set_option linter.unusedSimpArgs false
set_option linter.unusedVariables false
set_option linter.unusedSectionVars false

namespace Go.Ai
open Go
variable {P : Program}

theorem wrap_nat {k : IntKind} {n : Nat} (h : n < maxOf k) : k.wrap (.ofNat n) = .ofNat n := by
  cases k <;> simp only [maxOf] at h <;> simp [IntKind.wrap, IntKind.bits, IntKind.signed] <;> omega
theorem ofInt_rel (σ : Ai.Sub) (k : IntKind) (n : Int) : VRel σ (ofInt k n) (.int k n) := by
  cases n with
  | ofNat n => exact .nat k n
  | negSucc n => exact .neg k n
theorem mkNat_t {k : IntKind} {n : Nat} {f : AV → Bool} (h : mkNat k n f = true) : ∃ u, f u = true ∧ ∀ σ, VRel σ u (.int k (k.wrap (.ofNat n))) := by
  unfold mkNat at h
  cases hb : Nat.blt n (maxOf k) with
  | true =>
    rw [hb] at h
    refine ⟨_, h, fun σ => ?_⟩
    rw [wrap_nat (by simpa using hb)]
    exact .nat k n
  | false => rw [hb] at h; exact ⟨_, h, fun σ => ofInt_rel σ k _⟩

theorem nat_inv {σ : Ai.Sub} {k : IntKind} {n : Nat} {x : Value} (h : VRel σ (.nat k n) x) : x = .int k (.ofNat n) := by cases h; rfl
theorem neg_inv {σ : Ai.Sub} {k : IntKind} {n : Nat} {x : Value} (h : VRel σ (.neg k n) x) : x = .int k (.negSucc n) := by cases h; rfl
theorem bool_inv {σ : Ai.Sub} {b : Bool} {x : Value} (h : VRel σ (.bool b) x) : x = .bool b := by cases h; rfl
theorem str_inv {σ : Ai.Sub} {s : List Nat} {x : Value} (h : VRel σ (.str s) x) : x = .string (AV.bytes s) ∧ ∀ c ∈ s, c < 256 := by cases h; exact ⟨rfl, ‹_›⟩

/-- what two operands come to -/
def BinG (P : Program) (F : Value → Value → Sem Value) (v v2 u : AV) : Prop := ∀ (σ : Ai.Sub) w xv yv, VRel σ v xv → VRel σ v2 yv → ∃ z, (F xv yv).run P w = .ok z w ∧ VRel σ u z

theorem kEq_and {j k : IntKind} {b : Bool} (h : (kEq j k && b) = true) : j = k ∧ b = true := by
  obtain ⟨h1, h2⟩ := and_t.1 h
  exact ⟨kEq_t.1 h1, h2⟩

theorem addN_t {j : IntKind} {a b : Nat} {f : AV → Bool} {z : Int} (hz : b + 1 ≤ a → z = Int.ofNat (a - (b + 1))) (h : (bif Nat.ble (b + 1) a then mkNat j (a - (b + 1)) f else f (ofInt j (j.wrap z))) = true) : ∃ u, f u = true ∧ ∀ σ, VRel σ u (.int j (j.wrap z)) := by
  cases hb : Nat.ble (b + 1) a with
  | true =>
    rw [hb] at h
    obtain ⟨u, hu, hr⟩ := mkNat_t h
    exact ⟨u, hu, fun σ => by rw [hz (by simpa using hb)]; exact hr σ⟩
  | false => rw [hb] at h; exact ⟨_, h, fun σ => ofInt_rel σ _ _⟩

theorem bytes_size (s : List Nat) : (AV.bytes s).size = s.length := by simp [AV.bytes, ByteArray.size]
theorem bytes_append (a b : List Nat) : AV.bytes a ++ AV.bytes b = AV.bytes (a ++ b) := by
  apply ByteArray.ext
  simp [AV.bytes]

theorem i64_max : IntKind.i64.max = 9223372036854775807 := rfl
theorem cat_run (a b : ByteArray) (h : a.size + b.size ≤ 4611686018427387904) (w : World) : (Op.stringOp .add a b).run P w = .ok (.string (a ++ b)) w := by
  unfold Op.stringOp
  have hnot : ¬ ((a.size + b.size : Nat) : Int) > IntKind.i64.max := by rw [i64_max]; omega
  simp only
  rw [if_neg hnot]
  rfl
theorem bytes_rel {σ : Ai.Sub} {a b : List Nat} (ha : ∀ c ∈ a, c < 256) (hb : ∀ c ∈ b, c < 256) : VRel σ (.str (a ++ b)) (.string (AV.bytes a ++ AV.bytes b)) := by
  rw [bytes_append]
  refine .str _ fun c hc => ?_
  rcases List.mem_append.1 hc with h | h
  · exact ha c h
  · exact hb c h
theorem cat_sound {t : TypeId} {a b : List Nat} (h : a.length + b.length ≤ 4611686018427387904) : BinG P (binOp .add t) (.str a) (.str b) (.str (a ++ b)) := by
  intro σ w xv yv hx hy
  obtain ⟨hx1, ha⟩ := str_inv hx
  obtain ⟨hy1, hb⟩ := str_inv hy
  subst hx1
  subst hy1
  refine ⟨.string (AV.bytes a ++ AV.bytes b), ?_, bytes_rel ha hb⟩
  exact cat_run _ _ (by rw [bytes_size, bytes_size]; exact h) w

theorem run_add (t : TypeId) (j : IntKind) (x y : Int) (w : World) : (binOp .add t (.int j x) (.int j y)).run P w = .ok (.int j (j.wrap (x + y))) w := by simp [binOp, Op.intArith]
theorem run_sub (t : TypeId) (j : IntKind) (x y : Int) (w : World) : (binOp .sub t (.int j x) (.int j y)).run P w = .ok (.int j (j.wrap (x - y))) w := by simp [binOp, Op.intArith]
theorem run_mul (t : TypeId) (j : IntKind) (x y : Int) (w : World) : (binOp .mul t (.int j x) (.int j y)).run P w = .ok (.int j (j.wrap (x * y))) w := by simp [binOp, Op.intArith]

theorem add_nn {t : TypeId} {j k : IntKind} {a b : Nat} {f : AV → Bool} (h : (kEq j k && mkNat j (a + b) f) = true) : ∃ u, f u = true ∧ BinG P (binOp .add t) (.nat j a) (.nat k b) u := by
      obtain ⟨h1, h2⟩ := kEq_and h
      subst h1
      obtain ⟨u, hu, hr⟩ := mkNat_t h2
      refine ⟨u, hu, fun σ w xv yv hx hy => ?_⟩
      rw [nat_inv hx, nat_inv hy]
      have e : Int.ofNat a + Int.ofNat b = Int.ofNat (a + b) := rfl
      exact ⟨_, run_add .., by rw [e]; exact hr σ⟩
theorem add_np {t : TypeId} {j k : IntKind} {a b : Nat} {f : AV → Bool} (h : (kEq j k && (bif Nat.ble (b + 1) a then mkNat j (a - (b + 1)) f else f (ofInt j (j.wrap (.ofNat a + .negSucc b))))) = true) : ∃ u, f u = true ∧ BinG P (binOp .add t) (.nat j a) (.neg k b) u := by
      obtain ⟨h1, h2⟩ := kEq_and h
      subst h1
      have hz : b + 1 ≤ a → Int.ofNat a + Int.negSucc b = Int.ofNat (a - (b + 1)) := fun hle => by simp only [Int.ofNat_eq_natCast, Int.negSucc_eq]; omega
      obtain ⟨u, hu, hr⟩ := addN_t hz h2
      refine ⟨u, hu, fun σ w xv yv hx hy => ?_⟩
      rw [nat_inv hx, neg_inv hy]
      exact ⟨_, run_add .., hr σ⟩
theorem add_pn {t : TypeId} {j k : IntKind} {a b : Nat} {f : AV → Bool} (h : (kEq j k && (bif Nat.ble (b + 1) a then mkNat j (a - (b + 1)) f else f (ofInt j (j.wrap (.negSucc b + .ofNat a))))) = true) : ∃ u, f u = true ∧ BinG P (binOp .add t) (.neg j b) (.nat k a) u := by
      obtain ⟨h1, h2⟩ := kEq_and h
      subst h1
      have hz : b + 1 ≤ a → Int.negSucc b + Int.ofNat a = Int.ofNat (a - (b + 1)) := fun hle => by simp only [Int.ofNat_eq_natCast, Int.negSucc_eq]; omega
      obtain ⟨u, hu, hr⟩ := addN_t hz h2
      refine ⟨u, hu, fun σ w xv yv hx hy => ?_⟩
      rw [neg_inv hx, nat_inv hy]
      exact ⟨_, run_add .., hr σ⟩

theorem add_sound {t : TypeId} {x y : AV} {f : AV → Bool} (h : addK x y f = true) : ∃ u, f u = true ∧ BinG P (binOp .add t) x y u := by
  unfold addK at h
  split at h
  · split at h
    · exact add_nn h
    · exact add_np h
    · cases h
  · obtain ⟨k, a, hy, h1⟩ := asNat_t.1 h
    subst hy
    exact add_pn h1
  · obtain ⟨b, hy, h1⟩ := asStr_t.1 h
    subst hy
    obtain ⟨h2, h3⟩ := and_t.1 h1
    exact ⟨_, h3, cat_sound (Nat.le_of_ble_eq_true h2)⟩
  · cases h

theorem sub_sound {t : TypeId} {x y : AV} {f : AV → Bool} (h : subK x y f = true) : ∃ u, f u = true ∧ BinG P (binOp .sub t) x y u := by
  obtain ⟨j, a, hx, h⟩ := asNat_t.1 h
  subst hx
  cases y with
  | nat k b =>
    obtain ⟨h1, h2⟩ := kEq_and h
    subst h1
    have hb : ∃ u, f u = true ∧ ∀ σ, VRel σ u (.int j (j.wrap (.ofNat a - .ofNat b))) := by
      cases hb : Nat.ble b a with
      | true =>
        rw [hb] at h2
        obtain ⟨u, hu, hr⟩ := mkNat_t h2
        have hle : b ≤ a := by simpa using hb
        refine ⟨u, hu, fun σ => ?_⟩
        have : (Int.ofNat a - Int.ofNat b) = Int.ofNat (a - b) := by simp only [Int.ofNat_eq_natCast]; omega
        rw [this]; exact hr σ
      | false => rw [hb] at h2; exact ⟨_, h2, fun σ => ofInt_rel σ _ _⟩
    obtain ⟨u, hu, hr⟩ := hb
    refine ⟨u, hu, fun σ w xv yv hx hy => ?_⟩
    rw [nat_inv hx, nat_inv hy]
    exact ⟨_, run_sub .., hr σ⟩
  | neg k b =>
    obtain ⟨h1, h2⟩ := kEq_and h
    subst h1
    obtain ⟨u, hu, hr⟩ := mkNat_t h2
    refine ⟨u, hu, fun σ w xv yv hx hy => ?_⟩
    rw [nat_inv hx, neg_inv hy]
    refine ⟨_, run_sub .., ?_⟩
    have : (Int.ofNat a - Int.negSucc b) = Int.ofNat (a + (b + 1)) := by simp only [Int.ofNat_eq_natCast, Int.negSucc_eq]; omega
    rw [this]
    exact hr σ
  | _ => cases h

theorem mul_sound {t : TypeId} {x y : AV} {f : AV → Bool} (h : natK (· * ·) x y f = true) : ∃ u, f u = true ∧ BinG P (binOp .mul t) x y u := by
  obtain ⟨j, a, e1, h1⟩ := asNat_t.1 h
  obtain ⟨k, b, e2, h2⟩ := asNat_t.1 h1
  obtain ⟨e3, h3⟩ := kEq_and h2
  subst e1; subst e2; subst e3
  obtain ⟨u, hu, hr⟩ := mkNat_t h3
  refine ⟨u, hu, fun σ w xv yv hx hy => ?_⟩
  rw [nat_inv hx, nat_inv hy]
  have e : Int.ofNat a * Int.ofNat b = Int.ofNat (a * b) := rfl
  refine ⟨_, run_mul .., ?_⟩
  rw [e]
  exact hr σ

theorem quo_sound {t : TypeId} {x y : AV} {f : AV → Bool} (h : divK (· / ·) x y f = true) : ∃ u, f u = true ∧ BinG P (binOp .quo t) x y u := by
  obtain ⟨j, a, e1, h1⟩ := asNat_t.1 h
  obtain ⟨k, b, e2, h2⟩ := asNat_t.1 h1
  obtain ⟨h3, h4⟩ := and_t.1 h2
  obtain ⟨e3, h5⟩ := kEq_and h3
  subst e1; subst e2; subst e3
  obtain ⟨u, hu, hr⟩ := mkNat_t h4
  have hb0 : b ≠ 0 := by
    intro h0
    subst h0
    simp at h5
  refine ⟨u, hu, fun σ w xv yv hx hy => ?_⟩
  rw [nat_inv hx, nat_inv hy]
  refine ⟨.int j (j.wrap (Int.ofNat (a / b))), by simp [binOp, Op.intDiv, hb0], hr σ⟩

theorem rem_sound {t : TypeId} {x y : AV} {f : AV → Bool} (h : remK x y f = true) : ∃ u, f u = true ∧ BinG P (binOp .rem t) x y u := by
  obtain ⟨j, a, e1, h1⟩ := asNat_t.1 h
  obtain ⟨k, b, e2, h2⟩ := asNat_t.1 h1
  obtain ⟨h3, h4⟩ := and_t.1 h2
  obtain ⟨e3, h5⟩ := kEq_and h3
  subst e1; subst e2; subst e3
  have hb0 : b ≠ 0 := by
    intro h0
    subst h0
    simp at h5
  refine ⟨_, h4, fun σ w xv yv hx hy => ?_⟩
  rw [nat_inv hx, nat_inv hy]
  refine ⟨.int j (Int.ofNat (a % b)), ?_, .nat _ _⟩
  have h6 : (Int.ofNat a).tmod (Int.ofNat b) = Int.ofNat (a % b) := rfl
  have h7 : ¬ (Int.ofNat b = 0) := fun h => hb0 (Int.ofNat.inj h)
  simp only [binOp, Op.intDiv, ne_eq, not_true, if_false, h7, h6, Sem.run_pure]

theorem bits_eq (k : IntKind) : bitsOf k = k.bits := by cases k <;> rfl
theorem minN_eq (a b : Nat) : minN a b = min a b := by
  unfold minN
  cases h : Nat.ble a b with
  | true =>
    have : a ≤ b := by simpa using h
    simp; omega
  | false =>
    have : ¬ a ≤ b := fun hle => by rw [Nat.ble_eq_true_of_le hle] at h; cases h
    simp; omega

theorem shl_sound {t : TypeId} {x y : AV} {f : AV → Bool} (h : shlK x y f = true) : ∃ u, f u = true ∧ BinG P (binOp .shl t) x y u := by
  obtain ⟨j, a, e1, h1⟩ := asNat_t.1 h
  obtain ⟨k, b, e2, h2⟩ := asNat_t.1 h1
  subst e1; subst e2
  obtain ⟨u, hu, hr⟩ := mkNat_t h2
  rw [minN_eq, bits_eq] at hr
  refine ⟨u, hu, fun σ w xv yv hx hy => ?_⟩
  rw [nat_inv hx, nat_inv hy]
  refine ⟨.int j (j.wrap (Int.ofNat (a * 2 ^ min b j.bits))), ?_, hr σ⟩
  have hn : ¬ ((b : Int) < 0) := by omega
  simp [binOp, Op.shift, hn]
theorem shr_sound {t : TypeId} {x y : AV} {f : AV → Bool} (h : shrK x y f = true) : ∃ u, f u = true ∧ BinG P (binOp .shr t) x y u := by
  obtain ⟨j, a, e1, h1⟩ := asNat_t.1 h
  obtain ⟨k, b, e2, h2⟩ := asNat_t.1 h1
  subst e1; subst e2
  rw [minN_eq, bits_eq] at h2
  refine ⟨_, h2, fun σ w xv yv hx hy => ?_⟩
  rw [nat_inv hx, nat_inv hy]
  refine ⟨.int j (Int.ofNat (a / 2 ^ min b j.bits)), ?_, .nat _ _⟩
  have hn : ¬ ((b : Int) < 0) := by omega
  simp only [binOp, Op.shift]
  have : (Int.ofNat a).fdiv (2 ^ min (Int.ofNat b).toNat j.bits) = Int.ofNat (a / 2 ^ min b j.bits) := by
    have h2 : ((2 : Int) ^ min (Int.ofNat b).toNat j.bits) = ((2 ^ min b j.bits : Nat) : Int) := by simp
    rw [h2]
    exact Int.ofNat_fdiv a _ |>.symm
  simp [hn]
  exact this
end Go.Ai

namespace Go.Ai
open Go
variable {P : Program}

/-- the one lies below the other -/
def LtV (xv yv : Value) (b : Bool) : Prop :=
  (∃ j p q, xv = .int j p ∧ yv = .int j q ∧ (p < q ↔ b = true)) ∨ (∃ s t, xv = .string s ∧ yv = .string t ∧ Op.bytesLess s.toList t.toList = b)

theorem bytes_list {s : List Nat} : (AV.bytes s).toList = s.map UInt8.ofNat := by
  rw [Lib.toList_data]; simp [AV.bytes]

theorem u8_inj {a b : Nat} (ha : a < 256) (hb : b < 256) (h : UInt8.ofNat a = UInt8.ofNat b) : a = b := by
  have := congrArg UInt8.toNat h
  simp at this
  omega
theorem u8_lt {a b : Nat} (ha : a < 256) (hb : b < 256) : (UInt8.ofNat a < UInt8.ofNat b) ↔ a < b := by
  rw [UInt8.lt_iff_toNat_lt]
  simp
  omega

theorem bytesLt_eq : ∀ (a b : List Nat), (∀ c ∈ a, c < 256) → (∀ c ∈ b, c < 256) → Op.bytesLess (a.map UInt8.ofNat) (b.map UInt8.ofNat) = bytesLt a b
  | a, [], _, _ => by cases a <;> rfl
  | [], b :: y, _, _ => rfl
  | a :: x, b :: y, ha, hb => by
    have h1 := ha a (by simp)
    have h2 := hb b (by simp)
    have ih := bytesLt_eq x y (fun c hc => ha c (by simp [hc])) (fun c hc => hb c (by simp [hc]))
    simp only [List.map_cons, Op.bytesLess, bytesLt, ih]
    cases hlt : Nat.blt a b with
    | true =>
      have : a < b := by simpa using hlt
      simp [(u8_lt h1 h2).2 this]
    | false =>
      have hn : ¬ a < b := fun h => by rw [show Nat.blt a b = true by rw [Nat.blt_eq]; exact h] at hlt; cases hlt
      have : ¬ (UInt8.ofNat a < UInt8.ofNat b) := fun h => hn ((u8_lt h1 h2).1 h)
      cases heq : Nat.beq a b with
      | true =>
        have := Nat.eq_of_beq_eq_true heq
        subst this
        simp
      | false =>
        have hne : ¬ (UInt8.ofNat a = UInt8.ofNat b) := fun h => by
          have := u8_inj h1 h2 h
          subst this
          rw [Nat.beq_refl] at heq; cases heq
        simp [this, hne]
theorem bytesEq_eq : ∀ (a b : List Nat), (∀ c ∈ a, c < 256) → (∀ c ∈ b, c < 256) → ((a.map UInt8.ofNat) == (b.map UInt8.ofNat)) = bytesEq a b
  | [], [], _, _ => rfl
  | [], _ :: _, _, _ => rfl
  | _ :: _, [], _, _ => rfl
  | a :: x, b :: y, ha, hb => by
    have h1 := ha a (by simp)
    have h2 := hb b (by simp)
    have ih := bytesEq_eq x y (fun c hc => ha c (by simp [hc])) (fun c hc => hb c (by simp [hc]))
    simp only [List.map_cons, bytesEq, List.cons_beq_cons, ih]
    cases heq : Nat.beq a b with
    | true => rw [Nat.eq_of_beq_eq_true heq]; simp
    | false =>
      have hne : (UInt8.ofNat a == UInt8.ofNat b) = false := by
        rw [beq_eq_false_iff_ne]
        intro h
        have := u8_inj h1 h2 h
        subst this
        rw [Nat.beq_refl] at heq; cases heq
      simp [hne]

theorem less_total : ∀ (x y : List UInt8), (Op.bytesLess x y || (x == y)) = !Op.bytesLess y x
  | [], [] => rfl
  | [], _ :: _ => rfl
  | _ :: _, [] => rfl
  | a :: x, b :: y => by
    have ih := less_total x y
    simp only [Op.bytesLess, List.cons_beq_cons]
    rcases Nat.lt_trichotomy a.toNat b.toNat with h | h | h
    · have h1 : a < b := UInt8.lt_iff_toNat_lt.2 h
      have h2 : ¬ b < a := fun h' => by have := UInt8.lt_iff_toNat_lt.1 h'; omega
      have h3 : (b == a) = false := by rw [beq_eq_false_iff_ne]; intro e; rw [e] at h; omega
      simp [h1, h2, h3]
    · have h1 : a = b := UInt8.toNat_inj.1 h
      subst h1
      simpa using ih
    · have h1 : b < a := UInt8.lt_iff_toNat_lt.2 h
      have h2 : ¬ a < b := fun h' => by have := UInt8.lt_iff_toNat_lt.1 h'; omega
      have h3 : (a == b) = false := by rw [beq_eq_false_iff_ne]; intro e; rw [e] at h; omega
      simp [h1, h2, h3]

theorem lt_sound {x y : AV} {f : Bool → Bool} (h : ltK x y f = true) : ∃ b, f b = true ∧ ∀ σ xv yv, VRel σ x xv → VRel σ y yv → LtV xv yv b := by
  unfold ltK at h
  split at h
  · split at h
    · obtain ⟨h1, h2⟩ := kEq_and h
      subst h1
      refine ⟨_, h2, fun σ xv yv hx hy => .inl ⟨_, _, _, nat_inv hx, nat_inv hy, ?_⟩⟩
      rw [Nat.blt_eq]; simp
    · obtain ⟨h1, h2⟩ := kEq_and h
      subst h1
      refine ⟨_, h2, fun σ xv yv hx hy => .inl ⟨_, _, _, nat_inv hx, neg_inv hy, ?_⟩⟩
      simp only [Int.ofNat_eq_natCast, Int.negSucc_eq]; constructor
      · intro h; omega
      · intro h; cases h
    · cases h
  · split at h
    · obtain ⟨h1, h2⟩ := kEq_and h
      subst h1
      refine ⟨_, h2, fun σ xv yv hx hy => .inl ⟨_, _, _, neg_inv hx, neg_inv hy, ?_⟩⟩
      rw [Nat.blt_eq]; simp only [Int.negSucc_eq]; omega
    · obtain ⟨h1, h2⟩ := kEq_and h
      subst h1
      refine ⟨_, h2, fun σ xv yv hx hy => .inl ⟨_, _, _, neg_inv hx, nat_inv hy, ?_⟩⟩
      simp only [Int.ofNat_eq_natCast, Int.negSucc_eq]; constructor
      · intro _; trivial
      · intro _; omega
    · cases h
  · obtain ⟨b, hy, h1⟩ := asStr_t.1 h
    subst hy
    refine ⟨_, h1, fun σ xv yv hx hy => ?_⟩
    obtain ⟨hx1, ha⟩ := str_inv hx
    obtain ⟨hy1, hb⟩ := str_inv hy
    refine .inr ⟨_, _, hx1, hy1, ?_⟩
    rw [bytes_list, bytes_list, bytesLt_eq _ _ ha hb]
  · rename_i t n a c
    obtain ⟨h1, h2⟩ := and_t.1 h
    have := Nat.eq_of_beq_eq_true h1
    subst this
    obtain ⟨k, b, hy, h3⟩ := asNat_t.1 h2
    subst hy
    obtain ⟨h4, h5⟩ := and_t.1 h3
    obtain ⟨h6, h7⟩ := and_t.1 h4
    have hk := kEq_t.1 h6
    subst hk
    refine ⟨_, h5, fun σ xv yv hx hy => ?_⟩
    cases hx with
    | atl n a c m hm =>
      refine .inl ⟨_, _, _, rfl, nat_inv hy, ?_⟩
      have : b ≤ n := Nat.le_of_ble_eq_true h7
      simp only [Int.ofNat_eq_natCast]
      constructor
      · intro h; omega
      · intro h; cases h
  · cases h

/-- a comparison -/
theorem cmp_run (t : TypeId) {xv yv : Value} {b : Bool} (h : LtV xv yv b) (w : World) : (binOp .lss t xv yv).run P w = .ok (.bool b) w ∧ (binOp .geq t xv yv).run P w = .ok (.bool (!b)) w ∧ (binOp .gtr t yv xv).run P w = .ok (.bool b) w ∧ (binOp .leq t yv xv).run P w = .ok (.bool (!b)) w := by
  rcases h with ⟨j, p, q, rfl, rfl, h⟩ | ⟨s, u, rfl, rfl, h⟩
  · have e1 : decide (p < q) = b := by cases b <;> simp_all
    have e2 : decide (q ≤ p) = !b := by
      cases b
      · have : ¬ p < q := fun hh => by have := h.1 hh; cases this
        simp; omega
      · have : p < q := h.2 rfl
        simp; omega
    refine ⟨?_, ?_, ?_, ?_⟩ <;> simp only [binOp, ne_eq, not_true, if_false, Op.intCmp, Sem.run_pure, ge_iff_le, gt_iff_lt, e1, e2]
  · have h2 := less_total u.toList s.toList
    rw [h] at h2
    refine ⟨?_, ?_, ?_, ?_⟩
    · simp only [binOp, Op.stringOp, Sem.run_pure, h]
    · simp only [binOp, Op.stringOp, Sem.run_pure, h]
    · simp only [binOp, Op.stringOp, Sem.run_pure, h2, Bool.not_not]
    · simp only [binOp, Op.stringOp, Sem.run_pure, h2]
end Go.Ai
