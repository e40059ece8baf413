/- Plain: bytes taken from a text, so many or nothing from then on ('taker' of chapter 5), and what a term's and packed texts' bytes come to by them; the document's way by places. No function of the program is named here. -/
import Derived.Test.YtoagedaohdkbdaaDoorWireLaw
namespace Go.Proofs.YtoagedaohdkbdaaDoor
set_option linter.unusedSimpArgs false
set_option linter.unusedVariables false

/-- what is left behind a take, and what is taken; 'none': no more -/
def tkS (st : Option (List UInt8)) (n : Nat) : Option (List UInt8) := match st with
  | some r => if n ≤ r.length then some (r.drop n) else none
  | none => none
def tkV (st : Option (List UInt8)) (n : Nat) : List UInt8 := match st with
  | some r => if n ≤ r.length then r.take n else []
  | none => []
def num : List UInt8 → Nat
  | [] => 0
  | a :: r => a.toNat + 256 * num r
theorem num_one (a : UInt8) : num [a] = a.toNat := by simp [num]
theorem num_two (a b : UInt8) : num [a, b] = a.toNat + 256 * b.toNat := by simp [num]
theorem tkS_none (n : Nat) : tkS none n = none := rfl
theorem tkV_none (n : Nat) : tkV none n = [] := rfl
theorem tkS_one (a : UInt8) (r : List UInt8) : tkS (some (a :: r)) 1 = some r := by simp [tkS]
theorem tkV_one (a : UInt8) (r : List UInt8) : tkV (some (a :: r)) 1 = [a] := by simp [tkV]
theorem tkS_nil : tkS (some []) 1 = none := by simp [tkS]
theorem tkV_nil : tkV (some []) 1 = [] := by simp [tkV]
theorem tkV_len (st : Option (List UInt8)) (n : Nat) : (tkV st n).length ≤ n := by
  unfold tkV
  cases st with
  | none => simp
  | some r => simp only; split <;> simp; omega
theorem num_le1 {l : List UInt8} (h : l.length ≤ 1) : num l ≤ 255 := by
  match l, h with
  | [], _ => simp [num]
  | [a], _ => have := a.toNat_lt; rw [num_one]; omega
theorem num_le2 {l : List UInt8} (h : l.length ≤ 2) : num l ≤ 65535 := by
  match l, h with
  | [], _ => simp [num]
  | [a], _ => have := a.toNat_lt; rw [num_one]; omega
  | [a, b], _ => have := a.toNat_lt; have := b.toNat_lt; rw [num_two]; omega

/-- one node, taken -/
def nN (c : Bool) (st : Option (List UInt8)) : Int := if c then (num (tkV st 1) : Int) else 0
def sN (c : Bool) (st : Option (List UInt8)) : Option (List UInt8) := if c then tkS st 1 else st
def nS (c : Bool) (st : Option (List UInt8)) : ByteArray := if c then ⟨(tkV (tkS st 1) (num (tkV st 1))).toArray⟩ else ByteArray.empty
def sS (c : Bool) (st : Option (List UInt8)) : Option (List UInt8) := if c then tkS (tkS st 1) (num (tkV st 1)) else st
theorem sN_none (c : Bool) : sN c none = none := by cases c <;> rfl
theorem sS_none (c : Bool) : sS c none = none := by cases c <;> rfl
theorem rdB_take (c : Bool) (r : List UInt8) : rdB c r = (sN c (some r)).map fun q => (nN c (some r), q) := by
  cases c with
  | false => rfl
  | true =>
    cases r with
    | nil => rfl
    | cons a r =>
      show some ((a.toNat : Int), r) = _
      unfold sN nN
      rw [if_pos rfl, if_pos rfl, tkS_one, tkV_one, num_one]
      rfl
theorem rdT_take (c : Bool) (r : List UInt8) : rdT c r = (sS c (some r)).map fun q => (nS c (some r), q) := by
  cases c with
  | false => rfl
  | true =>
    cases r with
    | nil => rfl
    | cons a r =>
      unfold sS nS
      rw [if_pos rfl, if_pos rfl, tkS_one, tkV_one, num_one]
      show (if a.toNat ≤ r.length then some ((⟨(r.take a.toNat).toArray⟩ : ByteArray), r.drop a.toNat) else none) = _
      by_cases h : a.toNat ≤ r.length
      · simp [tkS, tkV, h]
      · simp [tkS, h]
def kN (st : Option (List UInt8)) : Int := (num (tkV st 1) : Int)
def st1 (st : Option (List UInt8)) : Option (List UInt8) := tkS st 1
def st2 (st : Option (List UInt8)) : Option (List UInt8) := sN (fN (kN st)) (st1 st)
def st3 (st : Option (List UInt8)) : Option (List UInt8) := sN (fM (kN st)) (st2 st)
def st4 (st : Option (List UInt8)) : Option (List UInt8) := sS (fS (kN st)) (st3 st)
def ndT (st : Option (List UInt8)) : Nd := ⟨kN st, nN (fN (kN st)) (st1 st), nN (fM (kN st)) (st2 st), nS (fS (kN st)) (st3 st)⟩
theorem decN_take {r : List UInt8} : decN r = (st4 (some r)).map fun q => (ndT (some r), q) := by
  cases r with
  | nil =>
    show none = _
    have e : st1 (some []) = none := rfl
    unfold st4 st3 st2
    rw [e, sN_none, sN_none, sS_none]
    rfl
  | cons k r =>
    have ek : kN (some (k :: r)) = (k.toNat : Int) := by unfold kN; rw [tkV_one, num_one]
    have e1 : st1 (some (k :: r)) = some r := tkS_one k r
    unfold decN ndT st4 st3 st2
    simp only
    rw [ek, e1, rdB_take]
    cases h2 : sN (fN (k.toNat : Int)) (some r) with
    | none => simp [sN_none, sS_none]
    | some r2 =>
      simp only [Option.map_some, Option.bind_some]
      rw [rdB_take]
      cases h3 : sN (fM (k.toNat : Int)) (some r2) with
      | none => simp [sS_none]
      | some r3 =>
        simp only [Option.map_some, Option.bind_some]
        rw [rdT_take]
        cases h4 : sS (fS (k.toNat : Int)) (some r3) with
        | none => simp
        | some r4 => simp

theorem decK_snoc : ∀ (k : Nat) (s : List UInt8), decK (k + 1) s = (decK k s).bind fun (l, r) => (decN r).bind fun (n, q) => some (l ++ [n], q) := by
  intro k
  induction k with
  | zero =>
    intro s
    simp only [decK, Option.bind_some]
    cases decN s with
    | none => rfl
    | some x => rfl
  | succ k ih =>
    intro s
    rw [show decK (k + 1 + 1) s = (decN s).bind fun (n, r) => (decK (k + 1) r).bind fun (l, r) => some (n :: l, r) from rfl]
    rw [show decK (k + 1) s = (decN s).bind fun (n, r) => (decK k r).bind fun (l, r) => some (n :: l, r) from rfl]
    cases hd : decN s with
    | none => rfl
    | some x =>
      obtain ⟨n, r⟩ := x
      simp only [Option.bind_some]
      rw [ih r]
      cases h2 : decK k r with
      | none => rfl
      | some y =>
        obtain ⟨l, q⟩ := y
        simp only [Option.bind_some]
        cases h3 : decN q with
        | none => rfl
        | some z => rfl
theorem decK_stop {j : Nat} {s : List UInt8} (h : decK j s = none) : ∀ i, j ≤ i → decK i s = none := by
  intro i hi
  induction i with
  | zero => obtain rfl : j = 0 := by omega
            exact h
  | succ i ih =>
    by_cases hj : j = i + 1
    · rw [← hj]; exact h
    · rw [decK_snoc, ih (by omega)]; rfl

/-- what is so behind j rounds: the taker's state, and the nodes -/
def DecI (s0 : List UInt8) (j : Nat) (st : Option (List UInt8)) (L : List Nd) : Prop := L.length = j ∧ match st with
  | some r => decK j s0 = some (L, r)
  | none => decK j s0 = none
theorem DecI.zero (s0 : List UInt8) : DecI s0 0 (some s0) [] := ⟨rfl, rfl⟩
theorem DecI.step {s0 : List UInt8} {j : Nat} {r : List UInt8} {L : List Nd} (h : DecI s0 j (some r) L) : DecI s0 (j + 1) (st4 (some r)) (L ++ [ndT (some r)]) := by
  obtain ⟨h1, h2⟩ := h
  refine ⟨by simp [h1], ?_⟩
  have h3 := decK_snoc j s0
  rw [show decK j s0 = some (L, r) from h2, Option.bind_some] at h3
  simp only at h3
  rw [decN_take] at h3
  cases h4 : st4 (some r) with
  | none => rw [h4] at h3; exact h3
  | some q => rw [h4] at h3; exact h3
def decB2 (s : List UInt8) : Option (List Nd) := match tkS (some s) 2 with
  | some r => (decK (num (tkV (some s) 2)) r).bind fun (l, q) => if q = [] ∧ chk l = 0 then some l else none
  | none => none
theorem decB_two (s : List UInt8) : decB s = decB2 s := by
  match s with
  | [] => rfl
  | [a] => rfl
  | a :: b :: r =>
    have h1 : tkS (some (a :: b :: r)) 2 = some r := by simp [tkS]
    have h2 : tkV (some (a :: b :: r)) 2 = [a, b] := by simp [tkV]
    unfold decB2 decB
    rw [h1, h2, num_two]

/-! ### packed texts -/
def txT (st : Option (List UInt8)) : ByteArray := ⟨(tkV (tkS st 2) (num (tkV st 2))).toArray⟩
def stT (st : Option (List UInt8)) : Option (List UInt8) := tkS (tkS st 2) (num (tkV st 2))
theorem un2_take {X : Nat} {r : List UInt8} : un2 X r = if num (tkV (some r) 2) ≤ X then (stT (some r)).map fun q => (txT (some r), q) else none := by
  match r with
  | [] =>
    have h1 : tkS (some ([] : List UInt8)) 2 = none := by simp [tkS]
    show none = _
    unfold stT
    rw [h1, tkS_none]
    split <;> rfl
  | [a] =>
    have h1 : tkS (some [a]) 2 = none := by simp [tkS]
    show none = _
    unfold stT
    rw [h1, tkS_none]
    split <;> rfl
  | a :: b :: r =>
    have h1 : tkS (some (a :: b :: r)) 2 = some r := by simp [tkS]
    have h2 : tkV (some (a :: b :: r)) 2 = [a, b] := by simp [tkV]
    unfold un2 stT txT
    simp only
    rw [h1, h2, num_two]
    by_cases hX : a.toNat + 256 * b.toNat ≤ X
    · rw [if_pos hX]
      by_cases hl : a.toNat + 256 * b.toNat ≤ r.length
      · rw [if_pos ⟨hX, hl⟩]; simp [tkS, tkV, hl]
      · rw [if_neg (fun h => hl h.2)]; simp [tkS, hl]
    · rw [if_neg (fun h => hX h.1), if_neg hX]
theorem unK_snoc {X : Nat} : ∀ (k : Nat) (s : List UInt8), unK X (k + 1) s = (unK X k s).bind fun (l, r) => (un2 X r).bind fun (n, q) => some (l ++ [n], q) := by
  intro k
  induction k with
  | zero =>
    intro s
    simp only [unK, Option.bind_some]
    cases un2 X s with
    | none => rfl
    | some x => rfl
  | succ k ih =>
    intro s
    rw [show unK X (k + 1 + 1) s = (un2 X s).bind fun (n, r) => (unK X (k + 1) r).bind fun (l, r) => some (n :: l, r) from rfl]
    rw [show unK X (k + 1) s = (un2 X s).bind fun (n, r) => (unK X k r).bind fun (l, r) => some (n :: l, r) from rfl]
    cases hd : un2 X s with
    | none => rfl
    | some x =>
      obtain ⟨n, r⟩ := x
      simp only [Option.bind_some]
      rw [ih r]
      cases h2 : unK X k r with
      | none => rfl
      | some y =>
        obtain ⟨l, q⟩ := y
        simp only [Option.bind_some]
        cases h3 : un2 X q with
        | none => rfl
        | some z => rfl
theorem unK_stop {X j : Nat} {s : List UInt8} (h : unK X j s = none) : ∀ i, j ≤ i → unK X i s = none := by
  intro i hi
  induction i with
  | zero => obtain rfl : j = 0 := by omega
            exact h
  | succ i ih =>
    by_cases hj : j = i + 1
    · rw [← hj]; exact h
    · rw [unK_snoc, ih (by omega)]; rfl
def UnI (X : Nat) (s0 : List UInt8) (j : Nat) (st : Option (List UInt8)) (L : List ByteArray) : Prop := L.length = j ∧ match st with
  | some r => unK X j s0 = some (L, r)
  | none => unK X j s0 = none
theorem UnI.zero (X : Nat) (s0 : List UInt8) : UnI X s0 0 (some s0) [] := ⟨rfl, rfl⟩
theorem UnI.step {X : Nat} {s0 : List UInt8} {j : Nat} {r : List UInt8} {L : List ByteArray} (h : UnI X s0 j (some r) L) (hX : num (tkV (some r) 2) ≤ X) : UnI X s0 (j + 1) (stT (some r)) (L ++ [txT (some r)]) := by
  obtain ⟨h1, h2⟩ := h
  refine ⟨by simp [h1], ?_⟩
  have h3 := unK_snoc (X := X) j s0
  rw [show unK X j s0 = some (L, r) from h2, Option.bind_some] at h3
  simp only at h3
  rw [un2_take, if_pos hX] at h3
  cases h4 : stT (some r) with
  | none => rw [h4] at h3; exact h3
  | some q => rw [h4] at h3; exact h3
theorem UnI.great {X : Nat} {s0 : List UInt8} {j : Nat} {r : List UInt8} {L : List ByteArray} (h : UnI X s0 j (some r) L) (hX : ¬ num (tkV (some r) 2) ≤ X) : unK X (j + 1) s0 = none := by
  obtain ⟨h1, h2⟩ := h
  rw [unK_snoc, show unK X j s0 = some (L, r) from h2, Option.bind_some]
  simp only
  rw [un2_take, if_neg hX]
  rfl

end Go.Proofs.YtoagedaohdkbdaaDoor
