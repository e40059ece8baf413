/- scope.Keyword: which words the two maps hold; no condition but a string's size. -/
import Derived.Test.YteldkcpkamgfpaaDoorRb
import Derived.Maps.OwnSet
import Derived.Maps.OwnOps
import Derived.Test.YteldkcpkamgfpaaDoorMix
import Derived.Test.YteldkcpkamgfpaaDoorBw
namespace Go.Proofs.YteldkcpkamgfpaaDoor
set_option linter.unusedSimpArgs false
set_option linter.unusedVariables false
open Go.RowKit Go.Maps

/-- readers that look at an element's shape alone -/
def intSh : Value → Bool
  | .int .i64 _ => true
  | _ => false
def strSh : Value → Bool
  | .string _ => true
  | _ => false
def nodeSh : Value → Bool
  | .agg a => match a.toList with
    | [x, y, z, s] => intSh x && intSh y && intSh z && strSh s
    | _ => false
  | _ => false
def formSh : Value → Bool
  | .agg a => match a.toList with
    | [x, y, z, s, t] => intSh x && intSh y && intSh z && strSh s && strSh t
    | _ => false
  | _ => false
def shR (f : Value → Bool) : Value → Option (DataW Unit × List MemPlace) := fun v => if f v then some (.nil, []) else none
theorem intSh_of {v : Value} (h : intSh v = true) : ∃ n, v = .int .i64 n := by
  unfold intSh at h; split at h
  · exact ⟨_, rfl⟩
  · cases h
theorem strSh_of {v : Value} (h : strSh v = true) : ∃ n, v = .string n := by
  unfold strSh at h; split at h
  · exact ⟨_, rfl⟩
  · cases h
theorem nodeSh_of {v : Value} (h : nodeSh v = true) : ∃ k n m s, v = .agg #[.int .i64 k, .int .i64 n, .int .i64 m, .string s] := by
  unfold nodeSh at h; split at h
  · rename_i a
    split at h
    · rename_i x y z s he
      simp only [Bool.and_eq_true] at h
      obtain ⟨⟨⟨h1, h2⟩, h3⟩, h4⟩ := h
      obtain ⟨k, rfl⟩ := intSh_of h1
      obtain ⟨n, rfl⟩ := intSh_of h2
      obtain ⟨m, rfl⟩ := intSh_of h3
      obtain ⟨s, rfl⟩ := strSh_of h4
      refine ⟨k, n, m, s, congrArg Value.agg ?_⟩
      rw [← Array.toArray_toList (xs := a), he]
    · cases h
  · cases h
theorem formSh_of {v : Value} (h : formSh v = true) : ∃ k n m s t, v = .agg #[.int .i64 k, .int .i64 n, .int .i64 m, .string s, .string t] := by
  unfold formSh at h; split at h
  · rename_i a
    split at h
    · rename_i x y z s t he
      simp only [Bool.and_eq_true] at h
      obtain ⟨⟨⟨⟨h1, h2⟩, h3⟩, h4⟩, h5⟩ := h
      obtain ⟨k, rfl⟩ := intSh_of h1
      obtain ⟨n, rfl⟩ := intSh_of h2
      obtain ⟨m, rfl⟩ := intSh_of h3
      obtain ⟨s, rfl⟩ := strSh_of h4
      obtain ⟨t, rfl⟩ := strSh_of h5
      refine ⟨k, n, m, s, t, congrArg Value.agg ?_⟩
      rw [← Array.toArray_toList (xs := a), he]
    · cases h
  · cases h
theorem shR_of {f : Value → Bool} {v : Value} {z : DataW Unit × List MemPlace} (h : shR f v = some z) : f v = true := by
  unfold shR at h; split at h
  · assumption
  · cases h

/-- block b is a map of at most n entries whose keys are just l -/
def KeysAt (f : Value → Bool) (b : Nat) (l : List (List UInt8)) (n : Nat) (w : World) : Prop :=
  ∃ D : DataW Unit, w.ownsMap Tryd.prog 9 (shR f) b n D ∧ IsMap D ∧ ∀ x : List UInt8, has D (.string x) = l.contains x

section
variable {f : Value → Bool}
theorem KeysAt.mono {b n n' : Nat} {l : List (List UInt8)} {w : World} (h : KeysAt f b l n w) (hn : n ≤ n') : KeysAt f b l n' w := by
  obtain ⟨D, h1, h2, h3⟩ := h
  exact ⟨D, h1.mono hn, h2, h3⟩
theorem KeysAt.below {b n B : Nat} {l : List (List UInt8)} {w w' : World} (h : KeysAt f b l n w) (hb : Below B w w') (hB : b < B) : KeysAt f b l n w' := by
  obtain ⟨D, ⟨es, clock, h0, F, hs, hD⟩, h2, h3⟩ := h
  exact ⟨D, ⟨es, clock, (hb.block b hB).trans h0, F, hs, hD⟩, h2, h3⟩
theorem KeysAt.alloc {b n : Nat} {l : List (List UInt8)} {w : World} (h : KeysAt f b l n w) (o : Obj) : KeysAt f b l n (w.alloc o) := by
  obtain ⟨D, h1, h2, h3⟩ := h
  exact ⟨D, h1.alloc o, h2, h3⟩
theorem KeysAt.lt {b n : Nat} {l : List (List UInt8)} {w : World} (h : KeysAt f b l n w) : b < w.heap.size := by
  obtain ⟨D, h1, h2, h3⟩ := h
  exact h1.lt
theorem keysAt_made (f : Value → Bool) (w : World) : KeysAt f w.heap.size [] 0 (w.alloc (.map #[] 0)) :=
  ⟨_, World.ownsMap_made w Tryd.prog 9 (shR f), ⟨[], rfl⟩, fun x => rfl⟩

theorem wpList_key {w : World} {ops : Array Oper} {rest : List Oper} {o : Oper} {a : Act} {Q : Exit → Act → World → Prop} (hg : o.guard = none) (m x v : Operand) (t e : TypeId)
    (hop : o.op = Op.insert t m x v ∨ o.op = Op.mapUpdate t m x v) (ht : Tryd.prog.underlying t = some (.map 9 e)) (b n : Nat) (l : List (List UInt8)) (s : ByteArray)
    (hm : a.eval m = .map (some b)) (hx : a.eval x = .string s) (hv : f (a.eval v) = true) (h : KeysAt f b l n w) (hn : n < 1000) (hs : s.size ≤ 1000)
    (hK : ∀ w', KeysAt f b (s.data.toList :: l) (n + 1) w' → w.grownBy w' (some b) → wpList Tryd.prog ops Q rest (a.put o.dst undef) w') :
    wpList Tryd.prog ops Q (o :: rest) a w := by
  obtain ⟨D, h1, h2, h3⟩ := h
  refine wpList_plain hg fun K' hK' => ?_
  have hkey : keyOf Tryd.prog 9 (.string s) = some (.string s.data.toList) := Go.WideMaps.keyOf_string_mk Tryd.underlying9 (by unfold maxLen; omega)
  obtain ⟨w', hrun, r1, r2⟩ := h1.update (string_keyed Tryd.underlying9) ht (by unfold maxLen; omega) hkey (d := .nil) (ps := []) (val := a.eval v) (by unfold shR; rw [hv]; rfl)
  have hres := hK w' ⟨D.put (.string s.data.toList) .nil, r1, h2.put _ _, fun x => by
    by_cases e : x = s.data.toList
    · subst e
      rw [has_put_same h2 (by trivial)]
      simp
    · rw [has_put_other (by intro h; injection h with h; exact e h), h3 x]
      simp [List.contains_cons, e]⟩ r2
  unfold Oper.wp
  rcases hop with hop | hop <;>
    (simp [execOp, hop, hm, hx, hrun, Result.andThen]
     exact hK' _ _ hres)

/-- what the making of a map leaves: its keys, and what lay before -/
structure KwAt (f : Value → Bool) (w0 : World) (b : Nat) (l : List (List UInt8)) (n : Nat) (w : World) : Prop where
  keys : KeysAt f b l n w
  bel : Below w0.heap.size w0 w
  ge : w0.heap.size ≤ b

theorem KwAt.step {w0 w w' : World} {b n n' : Nat} {l l' : List (List UInt8)} (h : KwAt f w0 b l n w) (h' : KeysAt f b l' n' w') (hg : w.grownBy w' (some b)) : KwAt f w0 b l' n' w' :=
  ⟨h', h.bel.grown hg h.bel.size (fun k hk => by cases hk; exact h.ge), h.ge⟩


end
-- printed by genkw.py
def aloneL : List (List UInt8) := [[116, 105, 99, 107], [115, 116, 97, 114], [85, 110, 105, 116], [69, 109, 112, 116, 121], [122, 101, 114, 111], [78, 97, 116], [80, 114, 111, 112]]
def formL : List (List UInt8) := [[101, 108, 105, 109], [99, 111, 110], [100, 97, 116, 97], [113, 101, 108, 105, 109], [99, 108, 97, 115, 115], [113, 117, 111, 116], [116, 114, 97, 110, 115, 112], [99, 97, 115, 116], [114, 101, 102, 108], [101, 113], [97, 98, 111, 114, 116], [114, 101, 99], [112, 114, 102], [115, 117, 99], [115, 110, 100], [102, 115, 116], [112, 97, 105, 114], [97, 112, 112], [108, 97, 109], [84, 121, 112, 101]]
def moreL : List (List UInt8) := [[112, 105], [115, 105, 103], [112, 105, 49], [115, 105, 103, 49], [112, 105, 50], [115, 105, 103, 50], [112, 105, 51], [115, 105, 103, 51]]
def formsL : List (List UInt8) := moreL.reverse ++ formL
def postL : List (List UInt8) := [[], [49], [50], [51]]

theorem form_sz (a : Array UInt8) (t : List UInt8) (ha : a.size ≤ 10) (ht : t.length ≤ 1) : (⟨a⟩ : ByteArray).size + (⟨t.toArray⟩ : ByteArray).size ≤ 100 ∧ (⟨a⟩ ++ ⟨t.toArray⟩ : ByteArray).size ≤ 1000 := by
  have h1 : (⟨a⟩ : ByteArray).size = a.size := rfl
  have h2 : (⟨t.toArray⟩ : ByteArray).size = t.length := by simp [ByteArray.size]
  rw [ByteArray.size_append, h1, h2]
  omega
def RForm (w : World) (B : Nat) (i : Value) (wr : World) : Prop :=
  ∃ k : Nat, k ≤ 4 ∧ i = .int .i64 k ∧ KwAt formSh w w.heap.size ((moreL.take (2 * k)).reverse ++ formL) (20 + 2 * k) wr ∧ wr.heap[B]? = some (.cells #[.string ⟨#[]⟩, .string ⟨#[49]⟩, .string ⟨#[50]⟩, .string ⟨#[51]⟩] 9)
theorem form_cell {B k : Nat} {wr : World} {t : List UInt8} (h : wr.heap[B]? = some (.cells #[.string ⟨#[]⟩, .string ⟨#[49]⟩, .string ⟨#[50]⟩, .string ⟨#[51]⟩] 9)) (hk : k < 4) (ht : postL[k]? = some t) :
    wr.cell? ⟨B, k, none⟩ = some (.string ⟨t.toArray⟩) := by
  rw [Lib.cell_of_heap h]
  match k, hk with
  | 0, _ => simp [postL] at ht; subst ht; rfl
  | 1, _ => simp [postL] at ht; subst ht; rfl
  | 2, _ => simp [postL] at ht; subst ht; rfl
  | 3, _ => simp [postL] at ht; subst ht; rfl
theorem form_len {k : Nat} {t : List UInt8} (hk : k < 4) (ht : postL[k]? = some t) : t.length ≤ 1 := by
  match k, hk with
  | 0, _ => simp [postL] at ht; subst ht; decide
  | 1, _ => simp [postL] at ht; subst ht; decide
  | 2, _ => simp [postL] at ht; subst ht; decide
  | 3, _ => simp [postL] at ht; subst ht; decide
theorem form_next {k : Nat} {t : List UInt8} (hk : k < 4) (ht : postL[k]? = some t) :
    ((⟨#[115, 105, 103]⟩ ++ ⟨t.toArray⟩ : ByteArray).data.toList) :: ((⟨#[112, 105]⟩ ++ ⟨t.toArray⟩ : ByteArray).data.toList) :: ((moreL.take (2 * k)).reverse ++ formL) = (moreL.take (2 * (k + 1))).reverse ++ formL := by
  match k, hk with
  | 0, _ => simp [postL] at ht; subst ht; rfl
  | 1, _ => simp [postL] at ht; subst ht; rfl
  | 2, _ => simp [postL] at ht; subst ht; rfl
  | 3, _ => simp [postL] at ht; subst ht; rfl

set_option maxHeartbeats 1000000 in
set_option maxRecDepth 100000 in
theorem alone_any (w : World) :
    Calls Tryd.prog 93 #[] w fun e w' => ∃ b, e = .returned (.map (some b)) ∧ KwAt nodeSh w b aloneL 7 w' := by
  have hmm := @run_makeMap Tryd.prog
  have K0 := keysAt_made nodeSh w
  have B0 : Below w.heap.size w (w.alloc (.map #[] 0)) := (Below.refl _ _).alloc (Nat.le_refl _) _
  have H0 : KwAt nodeSh w w.heap.size [] 0 (w.alloc (.map #[] 0)) := ⟨K0, B0, Nat.le_refl _⟩
  have HN := Lib.hid H0
  clear K0 B0 H0
  go_enter Tryd.func93, Tryd.ntmps93
  go_wp2_with (refine wpList_key rfl _ _ _ 127 30 (.inl rfl) Tryd.underlying127 w.heap.size 0 _ ⟨#[80, 114, 111, 112]⟩ rfl rfl rfl HN.out.keys (by decide) (by decide) ?_)
  intro w1 k1 g1
  have HN1 := Lib.hid (HN.out.step k1 g1)
  clear k1 g1 HN
  go_wp2_with (refine wpList_key rfl _ _ _ 127 30 (.inl rfl) Tryd.underlying127 w.heap.size 1 _ ⟨#[78, 97, 116]⟩ rfl rfl rfl HN1.out.keys (by decide) (by decide) ?_)
  intro w2 k2 g2
  have HN2 := Lib.hid (HN1.out.step k2 g2)
  clear k2 g2 HN1
  go_wp2_with (refine wpList_key rfl _ _ _ 127 30 (.inl rfl) Tryd.underlying127 w.heap.size 2 _ ⟨#[122, 101, 114, 111]⟩ rfl rfl rfl HN2.out.keys (by decide) (by decide) ?_)
  intro w3 k3 g3
  have HN3 := Lib.hid (HN2.out.step k3 g3)
  clear k3 g3 HN2
  go_wp2_with (refine wpList_key rfl _ _ _ 127 30 (.inl rfl) Tryd.underlying127 w.heap.size 3 _ ⟨#[69, 109, 112, 116, 121]⟩ rfl rfl rfl HN3.out.keys (by decide) (by decide) ?_)
  intro w4 k4 g4
  have HN4 := Lib.hid (HN3.out.step k4 g4)
  clear k4 g4 HN3
  go_wp2_with (refine wpList_key rfl _ _ _ 127 30 (.inl rfl) Tryd.underlying127 w.heap.size 4 _ ⟨#[85, 110, 105, 116]⟩ rfl rfl rfl HN4.out.keys (by decide) (by decide) ?_)
  intro w5 k5 g5
  have HN5 := Lib.hid (HN4.out.step k5 g5)
  clear k5 g5 HN4
  go_wp2_with (refine wpList_key rfl _ _ _ 127 30 (.inl rfl) Tryd.underlying127 w.heap.size 5 _ ⟨#[115, 116, 97, 114]⟩ rfl rfl rfl HN5.out.keys (by decide) (by decide) ?_)
  intro w6 k6 g6
  have HN6 := Lib.hid (HN5.out.step k6 g6)
  clear k6 g6 HN5
  go_wp2_with (refine wpList_key rfl _ _ _ 127 30 (.inl rfl) Tryd.underlying127 w.heap.size 6 _ ⟨#[116, 105, 99, 107]⟩ rfl rfl rfl HN6.out.keys (by decide) (by decide) ?_)
  intro w7 k7 g7
  have HN7 := Lib.hid (HN6.out.step k7 g7)
  clear k7 g7 HN6
  go_wp2
  go_ret
  exact ⟨_, rfl, HN7.out⟩

set_option maxHeartbeats 4000000 in
set_option maxRecDepth 100000 in
theorem forms_any (w : World) :
    Calls Tryd.prog 92 #[] w fun e w' => ∃ b, e = .returned (.map (some b)) ∧ KwAt formSh w b formsL 28 w' := by
  have hmm := @run_makeMap Tryd.prog
  have K0 := keysAt_made formSh w
  have B0 : Below w.heap.size w (w.alloc (.map #[] 0)) := (Below.refl _ _).alloc (Nat.le_refl _) _
  have H0 : KwAt formSh w w.heap.size [] 0 (w.alloc (.map #[] 0)) := ⟨K0, B0, Nat.le_refl _⟩
  have HN := Lib.hid H0
  clear K0 B0 H0
  go_enter Tryd.func92, Tryd.ntmps92
  go_wp2_with (refine wpList_key rfl _ _ _ 125 132 (.inl rfl) Tryd.underlying125 w.heap.size 0 _ ⟨#[84, 121, 112, 101]⟩ rfl rfl rfl HN.out.keys (by decide) (by decide) ?_)
  intro w1 k1 g1
  have HN1 := Lib.hid (HN.out.step k1 g1)
  clear k1 g1 HN
  go_wp2_with (refine wpList_key rfl _ _ _ 125 132 (.inl rfl) Tryd.underlying125 w.heap.size 1 _ ⟨#[108, 97, 109]⟩ rfl rfl rfl HN1.out.keys (by decide) (by decide) ?_)
  intro w2 k2 g2
  have HN2 := Lib.hid (HN1.out.step k2 g2)
  clear k2 g2 HN1
  go_wp2_with (refine wpList_key rfl _ _ _ 125 132 (.inl rfl) Tryd.underlying125 w.heap.size 2 _ ⟨#[97, 112, 112]⟩ rfl rfl rfl HN2.out.keys (by decide) (by decide) ?_)
  intro w3 k3 g3
  have HN3 := Lib.hid (HN2.out.step k3 g3)
  clear k3 g3 HN2
  go_wp2_with (refine wpList_key rfl _ _ _ 125 132 (.inl rfl) Tryd.underlying125 w.heap.size 3 _ ⟨#[112, 97, 105, 114]⟩ rfl rfl rfl HN3.out.keys (by decide) (by decide) ?_)
  intro w4 k4 g4
  have HN4 := Lib.hid (HN3.out.step k4 g4)
  clear k4 g4 HN3
  go_wp2_with (refine wpList_key rfl _ _ _ 125 132 (.inl rfl) Tryd.underlying125 w.heap.size 4 _ ⟨#[102, 115, 116]⟩ rfl rfl rfl HN4.out.keys (by decide) (by decide) ?_)
  intro w5 k5 g5
  have HN5 := Lib.hid (HN4.out.step k5 g5)
  clear k5 g5 HN4
  go_wp2_with (refine wpList_key rfl _ _ _ 125 132 (.inl rfl) Tryd.underlying125 w.heap.size 5 _ ⟨#[115, 110, 100]⟩ rfl rfl rfl HN5.out.keys (by decide) (by decide) ?_)
  intro w6 k6 g6
  have HN6 := Lib.hid (HN5.out.step k6 g6)
  clear k6 g6 HN5
  go_wp2_with (refine wpList_key rfl _ _ _ 125 132 (.inl rfl) Tryd.underlying125 w.heap.size 6 _ ⟨#[115, 117, 99]⟩ rfl rfl rfl HN6.out.keys (by decide) (by decide) ?_)
  intro w7 k7 g7
  have HN7 := Lib.hid (HN6.out.step k7 g7)
  clear k7 g7 HN6
  go_wp2_with (refine wpList_key rfl _ _ _ 125 132 (.inl rfl) Tryd.underlying125 w.heap.size 7 _ ⟨#[112, 114, 102]⟩ rfl rfl rfl HN7.out.keys (by decide) (by decide) ?_)
  intro w8 k8 g8
  have HN8 := Lib.hid (HN7.out.step k8 g8)
  clear k8 g8 HN7
  go_wp2_with (refine wpList_key rfl _ _ _ 125 132 (.inl rfl) Tryd.underlying125 w.heap.size 8 _ ⟨#[114, 101, 99]⟩ rfl rfl rfl HN8.out.keys (by decide) (by decide) ?_)
  intro w9 k9 g9
  have HN9 := Lib.hid (HN8.out.step k9 g9)
  clear k9 g9 HN8
  go_wp2_with (refine wpList_key rfl _ _ _ 125 132 (.inl rfl) Tryd.underlying125 w.heap.size 9 _ ⟨#[97, 98, 111, 114, 116]⟩ rfl rfl rfl HN9.out.keys (by decide) (by decide) ?_)
  intro w10 k10 g10
  have HN10 := Lib.hid (HN9.out.step k10 g10)
  clear k10 g10 HN9
  go_wp2_with (refine wpList_key rfl _ _ _ 125 132 (.inl rfl) Tryd.underlying125 w.heap.size 10 _ ⟨#[101, 113]⟩ rfl rfl rfl HN10.out.keys (by decide) (by decide) ?_)
  intro w11 k11 g11
  have HN11 := Lib.hid (HN10.out.step k11 g11)
  clear k11 g11 HN10
  go_wp2_with (refine wpList_key rfl _ _ _ 125 132 (.inl rfl) Tryd.underlying125 w.heap.size 11 _ ⟨#[114, 101, 102, 108]⟩ rfl rfl rfl HN11.out.keys (by decide) (by decide) ?_)
  intro w12 k12 g12
  have HN12 := Lib.hid (HN11.out.step k12 g12)
  clear k12 g12 HN11
  go_wp2_with (refine wpList_key rfl _ _ _ 125 132 (.inl rfl) Tryd.underlying125 w.heap.size 12 _ ⟨#[99, 97, 115, 116]⟩ rfl rfl rfl HN12.out.keys (by decide) (by decide) ?_)
  intro w13 k13 g13
  have HN13 := Lib.hid (HN12.out.step k13 g13)
  clear k13 g13 HN12
  go_wp2_with (refine wpList_key rfl _ _ _ 125 132 (.inl rfl) Tryd.underlying125 w.heap.size 13 _ ⟨#[116, 114, 97, 110, 115, 112]⟩ rfl rfl rfl HN13.out.keys (by decide) (by decide) ?_)
  intro w14 k14 g14
  have HN14 := Lib.hid (HN13.out.step k14 g14)
  clear k14 g14 HN13
  go_wp2_with (refine wpList_key rfl _ _ _ 125 132 (.inl rfl) Tryd.underlying125 w.heap.size 14 _ ⟨#[113, 117, 111, 116]⟩ rfl rfl rfl HN14.out.keys (by decide) (by decide) ?_)
  intro w15 k15 g15
  have HN15 := Lib.hid (HN14.out.step k15 g15)
  clear k15 g15 HN14
  go_wp2_with (refine wpList_key rfl _ _ _ 125 132 (.inl rfl) Tryd.underlying125 w.heap.size 15 _ ⟨#[99, 108, 97, 115, 115]⟩ rfl rfl rfl HN15.out.keys (by decide) (by decide) ?_)
  intro w16 k16 g16
  have HN16 := Lib.hid (HN15.out.step k16 g16)
  clear k16 g16 HN15
  go_wp2_with (refine wpList_key rfl _ _ _ 125 132 (.inl rfl) Tryd.underlying125 w.heap.size 16 _ ⟨#[113, 101, 108, 105, 109]⟩ rfl rfl rfl HN16.out.keys (by decide) (by decide) ?_)
  intro w17 k17 g17
  have HN17 := Lib.hid (HN16.out.step k17 g17)
  clear k17 g17 HN16
  go_wp2_with (refine wpList_key rfl _ _ _ 125 132 (.inl rfl) Tryd.underlying125 w.heap.size 17 _ ⟨#[100, 97, 116, 97]⟩ rfl rfl rfl HN17.out.keys (by decide) (by decide) ?_)
  intro w18 k18 g18
  have HN18 := Lib.hid (HN17.out.step k18 g18)
  clear k18 g18 HN17
  go_wp2_with (refine wpList_key rfl _ _ _ 125 132 (.inl rfl) Tryd.underlying125 w.heap.size 18 _ ⟨#[99, 111, 110]⟩ rfl rfl rfl HN18.out.keys (by decide) (by decide) ?_)
  intro w19 k19 g19
  have HN19 := Lib.hid (HN18.out.step k19 g19)
  clear k19 g19 HN18
  go_wp2_with (refine wpList_key rfl _ _ _ 125 132 (.inl rfl) Tryd.underlying125 w.heap.size 19 _ ⟨#[101, 108, 105, 109]⟩ rfl rfl rfl HN19.out.keys (by decide) (by decide) ?_)
  intro w20 k20 g20
  have HN20 := Lib.hid (HN19.out.step k20 g20)
  clear k20 g20 HN19
  obtain ⟨w20s, h20⟩ : ∃ m, w20.heap.size = m := ⟨_, rfl⟩
  have hlt0 : w.heap.size < w20s := by rw [← h20]; exact HN20.out.keys.lt
  have a0 : Hid (RForm w w20s (.int .i64 0) (w20.alloc (.cells #[.string ⟨#[]⟩, .string ⟨#[49]⟩, .string ⟨#[50]⟩, .string ⟨#[51]⟩] 9))) :=
    Lib.hid ⟨0, by omega, rfl, ⟨HN20.out.keys.alloc _, HN20.out.bel.alloc HN20.out.bel.size _, Nat.le_refl _⟩, by rw [← h20]; exact (MapKept.heap_alloc w20 _).1⟩
  clear HN20
  go_wp2
  go_loopw [48] (fun i wr => RForm w w20s i wr) (fun i _ => 4 - (intOf i).toNat)
  case atStart => exact a0.out
  case round =>
    rename World => wr
    obtain ⟨k, hk, rfl, hkw, hbl⟩ := hrel
    have HK := Lib.hid hkw
    have HB := Lib.hid hbl
    clear hkw hbl a0
    by_cases hlt : k < 4
    rotate_left
    · obtain rfl : k = 4 := by omega
      go_wp2_with fail
      go_ret
      exact ⟨_, rfl, HK.out⟩
    obtain ⟨t, ht⟩ : ∃ t, postL[k]? = some t := ⟨_, List.getElem?_eq_getElem (by exact hlt)⟩
    have c0 : wr.cell? ⟨w20s, k, none⟩ = some (.string ⟨t.toArray⟩) := form_cell HB.out hlt ht
    have htl : t.length ≤ 1 := form_len hlt ht
    have q1 := form_sz #[112, 105] t (by decide) htl
    have q2 := form_sz #[115, 105, 103] t (by decide) htl
    have ha1 := fun w => run_string_add_sum (P := Tryd.prog) w ⟨#[112, 105]⟩ ⟨t.toArray⟩ (by have := q1.1; omega)
    have ha2 := fun w => run_string_add_sum (P := Tryd.prog) w ⟨#[115, 105, 103]⟩ ⟨t.toArray⟩ (by have := q2.1; omega)
    have s1 := q1.2
    have s2 := q2.2
    have hne : some w.heap.size ≠ some w20s := by intro h; injection h; omega
    have hsz : w20s < wr.heap.size := (Array.getElem?_eq_some_iff.1 HB.out).1
    have HS := Lib.hid hsz
    clear hsz q1 q2
    go_wp2_with (refine wpList_key rfl _ _ _ 125 132 (.inr rfl) Tryd.underlying125 w.heap.size (20 + 2 * k) _ (⟨#[112, 105]⟩ ++ ⟨t.toArray⟩) rfl rfl rfl HK.out.keys (by omega) s1 ?_)
    intro w1 k1 g1
    have HK1 := Lib.hid (HK.out.step k1 g1)
    have HB1 := Lib.hid ((g1.block w20s HS.out (Ne.symm hne)).trans HB.out)
    have HS1 := Lib.hid (Nat.lt_of_lt_of_le HS.out g1.size)
    clear k1 g1 HK HB HS c0
    go_wp2_with (refine wpList_key rfl _ _ _ 125 132 (.inr rfl) Tryd.underlying125 w.heap.size (20 + 2 * k + 1) _ (⟨#[115, 105, 103]⟩ ++ ⟨t.toArray⟩) rfl rfl rfl HK1.out.keys (by omega) s2 ?_)
    intro w2 k2 g2
    have HK2 := Lib.hid (HK1.out.step k2 g2)
    have HB2 := Lib.hid ((g2.block w20s HS1.out (Ne.symm hne)).trans HB1.out)
    clear k2 g2 HK1 HB1 HS1
    go_wp2
    go_roundw
    case rel => exact ⟨k + 1, by omega, by go_num, ⟨by rw [← form_next hlt ht]; exact HK2.out.keys.mono (by omega), HK2.out.bel, Nat.le_refl _⟩, HB2.out⟩
    case measure => simp [intOf]; omega

end Go.Proofs.YteldkcpkamgfpaaDoor
