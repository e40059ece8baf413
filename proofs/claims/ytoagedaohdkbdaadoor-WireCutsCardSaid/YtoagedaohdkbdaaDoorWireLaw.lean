/- Plain: the bytes of a term (chapter 5): what a row of nodes is as bytes, how bytes are read, and that each way undoes the other. No function of the program is named here. -/
import Derived.Test.YtoagedaohdkbdaaDoorTr
namespace Go.Proofs.YtoagedaohdkbdaaDoor
set_option linter.unusedSimpArgs false
set_option linter.unusedVariables false

def fN (k : Int) : Bool := (shp k.toNat).2.1
def fM (k : Int) : Bool := (shp k.toNat).2.2.1
def fS (k : Int) : Bool := (shp k.toNat).2.2.2
def by8 (n : Int) : UInt8 := UInt8.ofNat n.toNat
theorem by8_nat {n : Int} (h0 : 0 ≤ n) (h1 : n ≤ 255) : ((by8 n).toNat : Int) = n := by
  unfold by8
  rw [UInt8.toNat_ofNat']
  omega
theorem by8_of (a : UInt8) : by8 (a.toNat : Int) = a := by
  unfold by8
  rw [Int.toNat_natCast]
  exact UInt8.ofNat_toNat
/-- one more byte, where it is wanted -/
def optB (c : Bool) (n : Int) : List UInt8 := if c then [by8 n] else []
def txtB (c : Bool) (s : ByteArray) : List UInt8 := if c then by8 (s.size : Int) :: s.data.toList else []
def encN (n : Nd) : List UInt8 := by8 n.K :: (optB (fN n.K) n.N ++ (optB (fM n.K) n.M ++ txtB (fS n.K) n.S))
def rdB (c : Bool) (s : List UInt8) : Option (Int × List UInt8) := if c then (match s with | [] => none | a :: r => some ((a.toNat : Int), r)) else some (0, s)
def rdT (c : Bool) (s : List UInt8) : Option (ByteArray × List UInt8) := if c then (match s with | [] => none | a :: r => if a.toNat ≤ r.length then some (⟨(r.take a.toNat).toArray⟩, r.drop a.toNat) else none) else some (ByteArray.empty, s)
def decN (s : List UInt8) : Option (Nd × List UInt8) := match s with
  | [] => none
  | k :: r => (rdB (fN k.toNat) r).bind fun (N, r) => (rdB (fM k.toNat) r).bind fun (M, r) => (rdT (fS k.toNat) r).bind fun (S, r) => some (⟨k.toNat, N, M, S⟩, r)
def decK : Nat → List UInt8 → Option (List Nd × List UInt8)
  | 0, s => some ([], s)
  | k + 1, s => (decN s).bind fun (n, r) => (decK k r).bind fun (l, r) => some (n :: l, r)
def codB (l : List Nd) : List UInt8 := by8 ((l.length % 256 : Nat) : Int) :: by8 ((l.length / 256 : Nat) : Int) :: l.flatMap encN
def decB (s : List UInt8) : Option (List Nd) := match s with
  | a :: b :: r => (decK (a.toNat + 256 * b.toNat) r).bind fun (l, r) => if r = [] ∧ chk l = 0 then some l else none
  | _ => none

theorem rdB_opt {c : Bool} {n : Int} (h0 : 0 ≤ n) (h1 : n ≤ 255) (hz : c = false → n = 0) (r : List UInt8) : rdB c (optB c n ++ r) = some (n, r) := by
  cases c with
  | false => rw [hz rfl]; rfl
  | true =>
    show some (((by8 n).toNat : Int), r) = _
    rw [by8_nat h0 h1]
theorem rdT_txt {c : Bool} {s : ByteArray} (h1 : s.size ≤ 255) (hz : c = false → s = ByteArray.empty) (r : List UInt8) : rdT c (txtB c s ++ r) = some (s, r) := by
  cases c with
  | false => rw [hz rfl]; rfl
  | true =>
    have e : (by8 (s.size : Int)).toNat = s.data.toList.length := by
      have := by8_nat (n := (s.size : Int)) (by omega) (by omega)
      have h2 : s.data.toList.length = s.size := Array.length_toList
      omega
    show (if (by8 (s.size : Int)).toNat ≤ (s.data.toList ++ r).length then some ((⟨((s.data.toList ++ r).take (by8 (s.size : Int)).toNat).toArray⟩ : ByteArray), (s.data.toList ++ r).drop (by8 (s.size : Int)).toNat) else none) = _
    rw [e, if_pos (by rw [List.length_append]; omega), List.take_left, List.drop_left, Array.toArray_toList]
theorem rdB_back {c : Bool} {n : Int} {s r : List UInt8} (h : rdB c s = some (n, r)) : optB c n ++ r = s := by
  cases c with
  | false =>
    have h' : some ((0 : Int), s) = some (n, r) := h
    simp only [Option.some.injEq, Prod.mk.injEq] at h'
    rw [← h'.2]; rfl
  | true =>
    cases s with
    | nil => cases h
    | cons a q =>
      have h' : some ((a.toNat : Int), q) = some (n, r) := h
      simp only [Option.some.injEq, Prod.mk.injEq] at h'
      rw [← h'.1, ← h'.2]
      show by8 (a.toNat : Int) :: q = _
      rw [by8_of]
theorem rdT_back {c : Bool} {t : ByteArray} {s r : List UInt8} (h : rdT c s = some (t, r)) : txtB c t ++ r = s := by
  cases c with
  | false =>
    have h' : some (ByteArray.empty, s) = some (t, r) := h
    simp only [Option.some.injEq, Prod.mk.injEq] at h'
    rw [← h'.2]; rfl
  | true =>
    cases s with
    | nil => cases h
    | cons a q =>
      have h' : (if a.toNat ≤ q.length then some ((⟨(q.take a.toNat).toArray⟩ : ByteArray), q.drop a.toNat) else none) = some (t, r) := h
      split at h'
      · rename_i hl
        simp only [Option.some.injEq, Prod.mk.injEq] at h'
        rw [← h'.1, ← h'.2]
        show by8 ((((⟨(q.take a.toNat).toArray⟩ : ByteArray)).size : Nat) : Int) :: ((q.take a.toNat).toArray.toList ++ q.drop a.toNat) = _
        have e : (⟨(q.take a.toNat).toArray⟩ : ByteArray).size = a.toNat := by
          show (q.take a.toNat).toArray.size = _
          simp
          omega
        rw [e, by8_of]
        simp
      · cases h'
theorem decN_back {s r : List UInt8} {n : Nd} (h : decN s = some (n, r)) : encN n ++ r = s := by
  cases s with
  | nil => cases h
  | cons k q =>
    unfold decN at h
    simp only [Option.bind_eq_some_iff] at h
    obtain ⟨⟨N, r1⟩, h1, ⟨M, r2⟩, h2, ⟨S, r3⟩, h3, h4⟩ := h
    simp only [Option.some.injEq, Prod.mk.injEq] at h4
    obtain ⟨rfl, rfl⟩ := h4
    unfold encN
    simp only
    rw [List.cons_append, by8_of, List.append_assoc, List.append_assoc, rdT_back h3, rdB_back h2, rdB_back h1]
theorem decK_back : ∀ (k : Nat) (s r : List UInt8) (l : List Nd), decK k s = some (l, r) → l.length = k ∧ l.flatMap encN ++ r = s := by
  intro k
  induction k with
  | zero =>
    intro s r l h
    simp only [decK, Option.some.injEq, Prod.mk.injEq] at h
    obtain ⟨rfl, rfl⟩ := h
    exact ⟨rfl, rfl⟩
  | succ k ih =>
    intro s r l h
    simp only [decK, Option.bind_eq_some_iff] at h
    obtain ⟨⟨n, r1⟩, h1, ⟨m, r2⟩, h2, h3⟩ := h
    simp only [Option.some.injEq, Prod.mk.injEq] at h3
    obtain ⟨rfl, rfl⟩ := h3
    obtain ⟨e1, e2⟩ := ih _ _ _ h2
    refine ⟨by simp [e1], ?_⟩
    rw [List.flatMap_cons, List.append_assoc, e2, decN_back h1]

/-! ### of right nodes -/
theorem mostN_le (k : Nat) : mostN k ≤ 99 := by unfold mostN; split <;> (try split) <;> (try split) <;> omega
theorem right_parts {n : Nd} (h : rightB n = true) : (0 ≤ n.K ∧ n.K ≤ 29) ∧ (0 ≤ n.N ∧ n.N ≤ 255 ∧ (fN n.K = false → n.N = 0)) ∧ (0 ≤ n.M ∧ n.M ≤ 255 ∧ (fM n.K = false → n.M = 0)) ∧ (n.S.size ≤ 255 ∧ (fS n.K = false → n.S = ByteArray.empty)) := by
  unfold rightB at h
  rw [Bool.and_eq_true, Bool.and_eq_true, Bool.and_eq_true, Bool.and_eq_true] at h
  obtain ⟨⟨⟨⟨h1, h2⟩, h3⟩, h4⟩, h5⟩ := h
  have hm := mostN_le n.K.toNat
  refine ⟨⟨by simpa using h1, by simpa using h2⟩, ?_, ?_, ?_⟩
  · unfold fN
    cases hc : (shp n.K.toNat).2.1 with
    | false =>
      rw [hc, if_neg (by decide)] at h3
      have h6 : n.N = 0 := by simpa using h3
      exact ⟨by omega, by omega, fun _ => h6⟩
    | true =>
      rw [hc, if_pos rfl, Bool.and_eq_true, decide_eq_true_eq, decide_eq_true_eq] at h3
      exact ⟨by omega, by omega, fun h => by cases h⟩
  · unfold fM
    cases hc : (shp n.K.toNat).2.2.1 with
    | false =>
      rw [hc, if_neg (by decide)] at h4
      have h6 : n.M = 0 := by simpa using h4
      exact ⟨by omega, by omega, fun _ => h6⟩
    | true =>
      rw [hc, if_pos rfl, Bool.and_eq_true, decide_eq_true_eq, decide_eq_true_eq] at h4
      exact ⟨by omega, by omega, fun h => by cases h⟩
  · unfold fS
    cases hc : (shp n.K.toNat).2.2.2 with
    | false =>
      rw [hc, if_neg (by decide)] at h5
      have h6 : n.S.size = 0 := by simpa using h5
      refine ⟨by omega, fun _ => ?_⟩
      simpa using h6
    | true =>
      rw [hc, if_pos rfl] at h5
      unfold nameB nameL at h5
      rw [Bool.and_eq_true, Bool.and_eq_true, Bool.and_eq_true, decide_eq_true_eq, decide_eq_true_eq] at h5
      have h6 := h5.1.1.2
      rw [Array.length_toList] at h6
      have h7 : n.S.size = n.S.data.size := rfl
      exact ⟨by omega, fun h => by cases h⟩
theorem decN_enc {n : Nd} (h : rightB n = true) (r : List UInt8) : decN (encN n ++ r) = some (n, r) := by
  obtain ⟨⟨k0, k1⟩, ⟨n0, n1, n2⟩, ⟨m0, m1, m2⟩, s1, s2⟩ := right_parts h
  have e : ((by8 n.K).toNat : Int) = n.K := by8_nat k0 (by omega)
  unfold encN
  rw [List.cons_append, List.append_assoc, List.append_assoc]
  unfold decN
  simp only [e]
  rw [rdB_opt n0 n1 n2, Option.bind_some]
  simp only
  rw [rdB_opt m0 m1 m2, Option.bind_some]
  simp only
  rw [rdT_txt s1 s2, Option.bind_some]
theorem decK_enc : ∀ (l : List Nd), (∀ n, n ∈ l → rightB n = true) → ∀ r, decK l.length (l.flatMap encN ++ r) = some (l, r) := by
  intro l
  induction l with
  | nil => intro _ r; rfl
  | cons n l ih =>
    intro h r
    rw [List.flatMap_cons, List.append_assoc, List.length_cons]
    unfold decK
    rw [decN_enc (h n (by simp)), Option.bind_some]
    simp only
    rw [ih (fun m hm => h m (by simp [hm])), Option.bind_some]
theorem two_back {m : Nat} (h : m < 65536) : (by8 ((m % 256 : Nat) : Int)).toNat + 256 * (by8 ((m / 256 : Nat) : Int)).toNat = m := by
  have h1 := by8_nat (n := ((m % 256 : Nat) : Int)) (by omega) (by omega)
  have h2 := by8_nat (n := ((m / 256 : Nat) : Int)) (by omega) (by omega)
  omega
/-- what reads a beginning reads it of more, too -/
theorem decK_more : ∀ (k : Nat) (s r q : List UInt8) (l : List Nd), decK k s = some (l, r) → (∀ n, n ∈ l → rightB n = true) → decK k (s ++ q) = some (l, r ++ q) := by
  intro k s r q l h hr
  obtain ⟨e1, e2⟩ := decK_back k s r l h
  rw [← e2, ← e1, List.append_assoc]
  exact decK_enc l hr _

theorem wf_right : ∀ t : Tm, t.wf = true → ∀ n, n ∈ t.flat → rightB n = true := by
  refine Tm.ind ?_
  intro nd l ih hw n hn
  obtain ⟨h1, _, h3⟩ := wf_iff.1 hw
  rw [flat_mk] at hn
  rcases List.mem_append.1 hn with hn | hn
  · have hl : ∀ (l : List Tm), (∀ t, t ∈ l → ∀ n, n ∈ t.flat → rightB n = true) → n ∈ flatL l → rightB n = true := by
      intro l
      induction l with
      | nil => intro _ h; rw [flatL_nil] at h; cases h
      | cons t r ihr =>
        intro h hm
        rw [flatL_cons] at hm
        rcases List.mem_append.1 hm with hm | hm
        · exact h t (by simp) n hm
        · exact ihr (fun t ht => h t (by simp [ht])) hm
    exact hl l (fun t ht => ih t ht (h3 t ht)) hn
  · simp at hn
    rw [hn]
    exact h1
theorem chk_right {l : List Nd} (h : chk l = 0) : ∀ n, n ∈ l → rightB n = true := by
  obtain ⟨_, T, hT, _⟩ := chk_ok h
  obtain ⟨hw, hf⟩ := whole_some hT
  rw [← hf]
  exact wf_right T hw

/-! ### the laws of bytes -/
theorem dec_enc {l : List Nd} (h : chk l = 0) : decB (codB l) = some l := by
  have hl := (chk_ok h).1
  unfold codB decB
  simp only
  have e := two_back (m := l.length) (by omega)
  rw [e]
  have h1 := decK_enc l (chk_right h) []
  rw [List.append_nil] at h1
  rw [h1, Option.bind_some]
  exact if_pos ⟨rfl, h⟩
theorem enc_dec {s : List UInt8} {l : List Nd} (h : decB s = some l) : chk l = 0 ∧ codB l = s := by
  unfold decB at h
  split at h
  · rename_i a b r
    simp only [Option.bind_eq_some_iff] at h
    obtain ⟨⟨m, q⟩, h1, h2⟩ := h
    simp only at h2
    split at h2
    · rename_i hc
      obtain ⟨rfl, hc⟩ := hc
      obtain rfl := Option.some.inj h2
      obtain ⟨e1, e2⟩ := decK_back _ _ _ _ h1
      rw [List.append_nil] at e2
      refine ⟨hc, ?_⟩
      have ha := a.toNat_lt
      have hb := b.toNat_lt
      unfold codB
      rw [e2, e1, show (a.toNat + 256 * b.toNat) % 256 = a.toNat from by omega, show (a.toNat + 256 * b.toNat) / 256 = b.toNat from by omega, by8_of, by8_of]
    · cases h2
  · cases h
theorem enc_inj {l m : List Nd} (hl : chk l = 0) (hm : chk m = 0) (h : codB l = codB m) : l = m := by
  have h1 := dec_enc hl
  rw [h, dec_enc hm] at h1
  exact (Option.some.inj h1).symm
/-- no beginning of a term's bytes is another's -/
theorem enc_first {l m : List Nd} (hl : chk l = 0) (hm : chk m = 0) {q : List UInt8} (h : codB m ++ q = codB l) : q = [] := by
  have h0 := h
  unfold codB at h
  rw [List.cons_append, List.cons_append, List.cons.injEq, List.cons.injEq] at h
  obtain ⟨h1, h2, h3⟩ := h
  have hll := (chk_ok hl).1
  have hml := (chk_ok hm).1
  have e1 := two_back (m := l.length) (by omega)
  have e2 := two_back (m := m.length) (by omega)
  rw [h1, h2, e1] at e2
  have d1 := decK_enc m (chk_right hm) q
  have d2 := decK_enc l (chk_right hl) []
  rw [List.append_nil, ← h3, e2, d1] at d2
  simp only [Option.some.injEq, Prod.mk.injEq] at d2
  exact d2.2
theorem dec_cut {l : List Nd} (hl : chk l = 0) {p q : List UInt8} (h : p ++ q = codB l) (hq : q ≠ []) : decB p = none := by
  cases hd : decB p with
  | none => rfl
  | some m =>
    obtain ⟨hm, he⟩ := enc_dec hd
    rw [← he] at h
    exact absurd (enc_first hl hm h) hq
theorem dec_more {l : List Nd} (hl : chk l = 0) {q : List UInt8} (hq : q ≠ []) : decB (codB l ++ q) = none := by
  cases hd : decB (codB l ++ q) with
  | none => rfl
  | some m =>
    obtain ⟨hm, he⟩ := enc_dec hd
    exact absurd (enc_first hm hl he.symm) hq
/-- how long a node's bytes are -/
theorem encN_len (n : Nd) : (encN n).length = 1 + (if fN n.K then 1 else 0) + (if fM n.K then 1 else 0) + (if fS n.K then 1 + n.S.size else 0) := by
  unfold encN optB txtB
  have h : n.S.data.toList.length = n.S.size := Array.length_toList
  rw [List.length_cons, List.length_append, List.length_append]
  cases fN n.K <;> cases fM n.K <;> cases fS n.K <;> simp [h] <;> omega

/-! ### texts, packed -/
def txt2 (s : ByteArray) : List UInt8 := by8 ((s.size % 256 : Nat) : Int) :: by8 ((s.size / 256 : Nat) : Int) :: s.data.toList
def packB (l : List ByteArray) : List UInt8 := by8 (l.length : Int) :: l.flatMap txt2
def fitB (X : Nat) (l : List ByteArray) : Prop := l.length ≤ 255 ∧ ∀ s, s ∈ l → s.size ≤ X
def un2 (X : Nat) (s : List UInt8) : Option (ByteArray × List UInt8) := match s with
  | a :: b :: r => if a.toNat + 256 * b.toNat ≤ X ∧ a.toNat + 256 * b.toNat ≤ r.length then some (⟨(r.take (a.toNat + 256 * b.toNat)).toArray⟩, r.drop (a.toNat + 256 * b.toNat)) else none
  | _ => none
def unK (X : Nat) : Nat → List UInt8 → Option (List ByteArray × List UInt8)
  | 0, s => some ([], s)
  | k + 1, s => (un2 X s).bind fun (t, r) => (unK X k r).bind fun (l, r) => some (t :: l, r)
def unpackB (X : Nat) (s : List UInt8) : Option (List ByteArray) := match s with
  | [] => none
  | a :: r => (unK X a.toNat r).bind fun (l, r) => if r = [] then some l else none
theorem un2_txt {X : Nat} (hX : X < 65536) {s : ByteArray} (h : s.size ≤ X) (r : List UInt8) : un2 X (txt2 s ++ r) = some (s, r) := by
  have e := two_back (m := s.size) (by omega)
  have h2 : s.data.toList.length = s.size := Array.length_toList
  unfold txt2
  rw [List.cons_append, List.cons_append]
  unfold un2
  simp only
  rw [e, if_pos ⟨h, by rw [List.length_append]; omega⟩, ← h2, List.take_left, List.drop_left, Array.toArray_toList]
theorem un2_back {X : Nat} {s r : List UInt8} {t : ByteArray} (h : un2 X s = some (t, r)) : t.size ≤ X ∧ txt2 t ++ r = s := by
  unfold un2 at h
  split at h
  · rename_i a b q
    split at h
    · rename_i hc
      simp only [Option.some.injEq, Prod.mk.injEq] at h
      obtain ⟨rfl, rfl⟩ := h
      have e : (⟨(q.take (a.toNat + 256 * b.toNat)).toArray⟩ : ByteArray).size = a.toNat + 256 * b.toNat := by
        show (q.take (a.toNat + 256 * b.toNat)).toArray.size = _
        simp
        omega
      have ha := a.toNat_lt
      have hb := b.toNat_lt
      refine ⟨by omega, ?_⟩
      unfold txt2
      rw [e, show (a.toNat + 256 * b.toNat) % 256 = a.toNat from by omega, show (a.toNat + 256 * b.toNat) / 256 = b.toNat from by omega, by8_of, by8_of]
      simp
    · cases h
  · cases h
theorem unK_txt {X : Nat} (hX : X < 65536) : ∀ (l : List ByteArray), (∀ s, s ∈ l → s.size ≤ X) → ∀ r, unK X l.length (l.flatMap txt2 ++ r) = some (l, r) := by
  intro l
  induction l with
  | nil => intro _ r; rfl
  | cons s l ih =>
    intro h r
    rw [List.flatMap_cons, List.append_assoc, List.length_cons]
    unfold unK
    rw [un2_txt hX (h s (by simp)), Option.bind_some]
    simp only
    rw [ih (fun m hm => h m (by simp [hm])), Option.bind_some]
theorem unK_back {X : Nat} : ∀ (k : Nat) (s r : List UInt8) (l : List ByteArray), unK X k s = some (l, r) → l.length = k ∧ (∀ s, s ∈ l → s.size ≤ X) ∧ l.flatMap txt2 ++ r = s := by
  intro k
  induction k with
  | zero =>
    intro s r l h
    simp only [unK, Option.some.injEq, Prod.mk.injEq] at h
    obtain ⟨rfl, rfl⟩ := h
    exact ⟨rfl, (fun s hs => by cases hs), rfl⟩
  | succ k ih =>
    intro s r l h
    simp only [unK, Option.bind_eq_some_iff] at h
    obtain ⟨⟨n, r1⟩, h1, ⟨m, r2⟩, h2, h3⟩ := h
    simp only [Option.some.injEq, Prod.mk.injEq] at h3
    obtain ⟨rfl, rfl⟩ := h3
    obtain ⟨e1, e3, e2⟩ := ih _ _ _ h2
    obtain ⟨g1, g2⟩ := un2_back h1
    refine ⟨by simp [e1], fun s hs => ?_, by rw [List.flatMap_cons, List.append_assoc, e2, g2]⟩
    rcases List.mem_cons.1 hs with rfl | hs
    · exact g1
    · exact e3 s hs
theorem unpack_pack {X : Nat} (hX : X < 65536) {l : List ByteArray} (h : fitB X l) : unpackB X (packB l) = some l := by
  have e := by8_nat (n := (l.length : Int)) (by omega) (by have := h.1; omega)
  have h1 := unK_txt hX l h.2 []
  rw [List.append_nil] at h1
  unfold packB unpackB
  simp only
  rw [show (by8 (l.length : Int)).toNat = l.length from by omega, h1, Option.bind_some]
  exact if_pos rfl
theorem pack_unpack {X : Nat} {s : List UInt8} {l : List ByteArray} (h : unpackB X s = some l) : fitB X l ∧ packB l = s := by
  unfold unpackB at h
  split at h
  · cases h
  · rename_i a r
    simp only [Option.bind_eq_some_iff] at h
    obtain ⟨⟨m, q⟩, h1, h2⟩ := h
    simp only at h2
    split at h2
    · rename_i hc
      obtain rfl := hc
      obtain rfl := Option.some.inj h2
      obtain ⟨e1, e3, e2⟩ := unK_back _ _ _ _ h1
      rw [List.append_nil] at e2
      have ha := a.toNat_lt
      refine ⟨⟨by omega, e3⟩, ?_⟩
      unfold packB
      rw [e2, e1, by8_of]
    · cases h2
theorem pack_first {X : Nat} (hX : X < 65536) {l m : List ByteArray} (hl : fitB X l) (hm : fitB X m) {q : List UInt8} (h : packB m ++ q = packB l) : q = [] := by
  unfold packB at h
  rw [List.cons_append, List.cons.injEq] at h
  obtain ⟨h1, h3⟩ := h
  have e1 := by8_nat (n := (l.length : Int)) (by omega) (by have := hl.1; omega)
  have e2 := by8_nat (n := (m.length : Int)) (by omega) (by have := hm.1; omega)
  rw [h1] at e2
  have e3 : m.length = l.length := by omega
  have d1 := unK_txt hX m hm.2 q
  have d2 := unK_txt hX l hl.2 []
  rw [List.append_nil, ← h3, ← e3, d1] at d2
  simp only [Option.some.injEq, Prod.mk.injEq] at d2
  exact d2.2
theorem unpack_cut {X : Nat} (hX : X < 65536) {l : List ByteArray} (hl : fitB X l) {p q : List UInt8} (h : p ++ q = packB l) (hq : q ≠ []) : unpackB X p = none := by
  cases hd : unpackB X p with
  | none => rfl
  | some m =>
    obtain ⟨hm, he⟩ := pack_unpack hd
    rw [← he] at h
    exact absurd (pack_first hX hl hm h) hq
theorem unpack_more {X : Nat} (hX : X < 65536) {l : List ByteArray} (hl : fitB X l) {q : List UInt8} (hq : q ≠ []) : unpackB X (packB l ++ q) = none := by
  cases hd : unpackB X (packB l ++ q) with
  | none => rfl
  | some m =>
    obtain ⟨hm, he⟩ := pack_unpack hd
    exact absurd (pack_first hX hm hl he.symm) hq

/-! ### how long a term's bytes are -/
def kindLen (k : Int) (m : Nat) : Nat := if k = 0 ∨ k = 2 ∨ k = 3 ∨ k = 6 then 1 else if k = 1 ∨ k = 25 then 1 + m else if k = 26 then 3 + m else if k = 27 then 2 + m else 0
theorem shp_kinds : ∀ k : Fin 30, (shp k.val).2.1 = decide (k.val = 0 ∨ k.val = 2 ∨ k.val = 3 ∨ k.val = 6 ∨ k.val = 26) ∧ (shp k.val).2.2.1 = decide (k.val = 26 ∨ k.val = 27) ∧ (shp k.val).2.2.2 = decide (k.val = 1 ∨ k.val = 25 ∨ k.val = 26 ∨ k.val = 27) := by decide
theorem encN_long {n : Nd} (h : rightB n = true) : (encN n).length = 1 + kindLen n.K n.S.size := by
  obtain ⟨⟨k0, k1⟩, _⟩ := right_parts h
  rw [encN_len]
  unfold fN fM fS
  obtain ⟨k, hk⟩ := Int.eq_ofNat_of_zero_le k0
  rw [hk] at k1 ⊢
  have hk30 : k < 30 := by omega
  have e := shp_kinds ⟨k, hk30⟩
  simp only at e
  rw [Int.toNat_natCast, e.1, e.2.1, e.2.2]
  unfold kindLen
  simp only [decide_eq_true_eq]
  by_cases a : k = 0 ∨ k = 2 ∨ k = 3 ∨ k = 6
  · rw [if_pos (by omega), if_neg (by omega), if_neg (by omega), if_pos (by omega)]
  · by_cases b : k = 1 ∨ k = 25
    · rw [if_neg (by omega), if_neg (by omega), if_pos (by omega), if_neg (by omega), if_pos (by omega)] <;> omega
    · by_cases c : k = 26
      · rw [if_pos (by omega), if_pos (by omega), if_pos (by omega), if_neg (by omega), if_neg (by omega), if_pos (by omega)] <;> omega
      · by_cases d : k = 27
        · rw [if_neg (by omega), if_pos (by omega), if_pos (by omega), if_neg (by omega), if_neg (by omega), if_neg (by omega), if_pos (by omega)] <;> omega
        · rw [if_neg (by omega), if_neg (by omega), if_neg (by omega), if_neg (by omega), if_neg (by omega), if_neg (by omega), if_neg (by omega)]
def longs (l : List Nd) : Nat := (l.map fun n => 1 + kindLen n.K n.S.size).sum
theorem codB_long {l : List Nd} (h : chk l = 0) : (codB l).length = 2 + longs l := by
  have hr := chk_right h
  have : ∀ l : List Nd, (∀ n, n ∈ l → rightB n = true) → (l.flatMap encN).length = longs l := by
    intro l
    induction l with
    | nil => intro _; rfl
    | cons n r ih =>
      intro h
      rw [List.flatMap_cons, List.length_append, encN_long (h n (by simp)), ih (fun m hm => h m (by simp [hm]))]
      unfold longs
      rw [List.map_cons, List.sum_cons]
  unfold codB
  rw [List.length_cons, List.length_cons, this l hr]
  omega

end Go.Proofs.YtoagedaohdkbdaaDoor
