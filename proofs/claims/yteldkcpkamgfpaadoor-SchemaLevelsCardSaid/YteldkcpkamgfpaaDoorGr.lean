/- What slices.Grow (of nothing) and slices.Concat of slices of nodes come to: a row of the call's own; condition: the nodes are at most a million. What term.Make comes to, for every root and parts, where the table of shapes lies as it is laid; conditions: the strings' sizes. TermGrows' walk, and its plain law. What the reference's Of and Make come to; conditions: the strings' sizes; Of: the nodes are at most a million. -/
import Derived.Test.YteldkcpkamgfpaaDoorPa
import Derived.Test.YteldkcpkamgfpaaDoorBa
import Derived.Test.YteldkcpkamgfpaaDoorRh
namespace Go.Proofs.YteldkcpkamgfpaaDoor
set_option linter.unusedSimpArgs false
set_option linter.unusedVariables false
open Go.RowKit

def OwnN (base : Nat) (w : World) (v : Value) (l : List Nd) : Prop := w.ownsRow base 30 4 v l.length (l.flatMap nodeV)
theorem OwnN.read {base : Nat} {w : World} {v : Value} {l : List Nd} (h : OwnN base w v l) : ReadN w v l := RowAt.of_own h

def GrowPost (w : World) (e : Ending) (w' : World) : Prop := ∃ v, e = .returned v ∧ OwnN w.heap.size w' v [] ∧ Below w.heap.size w w'

def ConcatPost (L : List (List Nd)) (w : World) (e : Ending) (w' : World) : Prop := ∃ v, e = .returned v ∧ OwnN w.heap.size w' v L.flatten ∧ Below w.heap.size w w'

theorem flat_take {L : List (List Nd)} {k : Nat} (h : k < L.length) : (L.take (k + 1)).flatten = (L.take k).flatten ++ L[k] := by
  rw [List.take_add_one, List.getElem?_eq_getElem h]
  show (L.take k ++ [L[k]]).flatten = _
  rw [List.flatten_append]
  congr 1
  exact List.append_nil _
theorem flat_le (L : List (List Nd)) (k : Nat) : (L.take k).flatten.length ≤ L.flatten.length := by
  have h : L.flatten = (L.take k).flatten ++ (L.drop k).flatten := by rw [← List.flatten_append, List.take_append_drop]
  rw [h, List.length_append]
  omega

end Go.Proofs.YteldkcpkamgfpaaDoor

namespace Go.Proofs.YteldkcpkamgfpaaDoor
set_option linter.unusedSimpArgs false
set_option linter.unusedVariables false
open Go.RowKit

/-- the error of what a root and parts make -/
def makeE (n : Nd) (L : List (List Nd)) : Int :=
  if fstE (L.map chk) = 0 then (if rightB n = true ∧ arity n = L.length then chk (L.flatten ++ [n]) else 20) else fstE (L.map chk)

theorem fst_at {L : List (List Nd)} {k : Nat} (hk : k < L.length) (h : ∀ i (hi : i < k), chk (L[i]'(by omega)) = 0) (hc : chk L[k] ≠ 0) : fstE (L.map chk) = chk L[k] := by
  have e : L = L.take k ++ L[k] :: L.drop (k + 1) := by rw [← List.drop_eq_getElem_cons hk, List.take_append_drop]
  have h0 : fstE ((L.take k).map chk) = 0 := by
    rw [fstE_zero]
    intro x hx
    obtain ⟨l, hl, rfl⟩ := List.mem_map.1 hx
    obtain ⟨i, hi, rfl⟩ := List.mem_iff_getElem.1 hl
    have hik : i < k := by simp at hi; omega
    have := h i hik
    simpa using this
  have e2 : L.map chk = (L.take k).map chk ++ chk L[k] :: (L.drop (k + 1)).map chk := by
    have h1 := congrArg (List.map chk) e
    rw [List.map_append, List.map_cons] at h1
    exact h1
  rw [e2, fstE_append, if_pos h0, fstE, if_neg hc]
theorem fst_none {L : List (List Nd)} (h : ∀ i (hi : i < L.length), chk L[i] = 0) : fstE (L.map chk) = 0 := by
  rw [fstE_zero]
  intro x hx
  obtain ⟨l, hl, rfl⟩ := List.mem_map.1 hx
  obtain ⟨i, hi, rfl⟩ := List.mem_iff_getElem.1 hl
  exact h i hi
theorem makeE_fst {n : Nd} {L : List (List Nd)} {c : Int} (h : fstE (L.map chk) = c) (hc : c ≠ 0) : makeE n L = c := by unfold makeE; rw [h, if_neg hc]
theorem makeE_no {n : Nd} {L : List (List Nd)} (h : fstE (L.map chk) = 0) (hn : ¬ (rightB n = true ∧ arity n = L.length)) : makeE n L = 20 := by unfold makeE; rw [if_pos h, if_neg hn]
theorem makeE_yes {n : Nd} {L : List (List Nd)} (h : fstE (L.map chk) = 0) (hr : rightB n = true) (ha : arity n = L.length) : makeE n L = chk (L.flatten ++ [n]) := by unfold makeE; rw [if_pos h, if_pos ⟨hr, ha⟩]
theorem flat_bound (L : List (List Nd)) (h : ∀ l, l ∈ L → l.length ≤ 4000) : L.flatten.length ≤ L.length * 4000 := by
  induction L with
  | nil => simp
  | cons l r ih =>
    have h1 := h l (by simp)
    have h2 := ih (fun x hx => h x (by simp [hx]))
    simp only [List.flatten_cons, List.length_append, List.length_cons]
    omega
theorem arity_ten {nd : Nd} (hr : rightB nd = true) : arity nd ≤ 10 := by
  obtain ⟨kk, hK, hkk⟩ := right_kind hr
  unfold arity bnds
  split
  · have := right_M hr (.inl (by assumption)); simp; omega
  · split
    · have := right_M hr (.inr (by assumption)); simp; omega
    · have := shp_len kk hkk; rw [hK]; simp; omega

theorem ownsRow_base {w : World} {b b' : Nat} {e : TypeId} {size : Nat} {v : Value} {n : Nat} {xs : List Value} (h : w.ownsRow b e size v n xs) (hb : b' ≤ b) : w.ownsRow b' e size v n xs := by
  refine ⟨h.1, ?_⟩
  rcases h.2 with hn | ⟨g, cap, cur, h1, h2, h3⟩
  · exact .inl hn
  · exact .inr ⟨g, cap, cur, h1, Nat.le_trans hb h2, h3⟩

def MakePost (n : Nd) (L : List (List Nd)) (w : World) (e : Ending) (w' : World) : Prop :=
  ∃ v, e = .returned (.tuple #[v, .int .i64 (makeE n L)]) ∧ ReadN w' v (if makeE n L = 0 then L.flatten ++ [n] else []) ∧ Below w.heap.size w w'

theorem MakePost.nil {n : Nd} {L : List (List Nd)} {c : Int} {w w' : World} (h : makeE n L = c) (hc : c ≠ 0) (hb : Below w.heap.size w w') : MakePost n L w (.returned (.tuple #[.slice none 0 0, .int .i64 c])) w' :=
  ⟨_, by rw [h], by rw [h, if_neg hc]; exact ReadN.nil _, hb⟩

end Go.Proofs.YteldkcpkamgfpaaDoor

namespace Go.Proofs.YteldkcpkamgfpaaDoor
set_option linter.unusedSimpArgs false
set_option linter.unusedVariables false
open Go.RowKit

def sucN : Nd := ⟨12, 0, 0, ByteArray.empty⟩
def appN : Nd := ⟨5, 0, 0, ByteArray.empty⟩
theorem sucN_right : rightB sucN = true := by decide +kernel
theorem sucN_arity : arity sucN = 1 := by decide +kernel

theorem whole_suc {l : List Nd} {T : Tm} (h : whole l = some T) : whole (l ++ [sucN]) = some (Tm.mk sucN [T]) := by
  obtain ⟨hw, rfl⟩ := whole_some h
  have hwf : (Tm.mk sucN [T]).wf = true := wf_iff.2 ⟨sucN_right, by rw [sucN_arity]; rfl, fun t ht => by simp at ht; subst ht; exact hw⟩
  have := whole_flat hwf
  rwa [flat_mk, flatL_one] at this
theorem chk_suc {l : List Nd} {T : Tm} (h : whole l = some T) (hl : l.length ≤ 4000) (hd : T.dep ≤ 60) : chk (l ++ [sucN]) = if l.length = 4000 then 21 else if T.dep = 60 then 22 else 0 := by
  have hw := whole_suc h
  have hdep : (Tm.mk sucN [T]).dep = T.dep + 1 := by rw [dep_mk, depL_cons, depL_nil]; omega
  have hlen : (l ++ [sucN]).length = l.length + 1 := by simp
  unfold chk
  rw [hlen, hw]
  simp only [hdep]
  by_cases h1 : l.length = 4000
  · rw [if_pos (by omega), if_pos h1]
  · rw [if_neg (by omega), if_neg h1]
    by_cases h2 : T.dep = 60
    · rw [if_pos (by omega), if_pos h2]
    · rw [if_neg (by omega), if_neg h2]
theorem dpt_suc {l : List Nd} {T : Tm} (h : whole l = some T) (hc : chk (l ++ [sucN]) = 0) : dpt (l ++ [sucN]) = (T.dep : Int) + 1 := by
  unfold dpt
  rw [if_pos hc, whole_suc h]
  have hdep : (Tm.mk sucN [T]).dep = T.dep + 1 := by rw [dep_mk, depL_cons, depL_nil]; omega
  simp only [hdep]
  omega
theorem makeE_suc (l : List Nd) : makeE sucN [l] = if chk l = 0 then chk (l ++ [sucN]) else chk l := by
  unfold makeE
  simp only [List.map_cons, List.map_nil, fstE, List.flatten_cons, List.flatten_nil, List.append_nil, sucN_right, sucN_arity, List.length_cons, List.length_nil]
  by_cases h : chk l = 0
  · simp [h]
  · simp [h]

theorem chain {W a b : World} (h : Hid (Below W.heap.size W a)) (hb : Below a.heap.size a b) : Hid (Below W.heap.size W b) := h.out.trans (hb.mono h.out.size)

/-- a literal slice of slices -/
theorem ReadNN.lit1 {w : World} {t : TypeId} {v : Value} {l : List Nd} (h : ReadN w v l) : ReadNN (w.alloc (.cells #[v] t)) (.slice (some ⟨w.heap.size, 0, none⟩) 1 1) [l] := by
  refine ⟨[v], rfl, RowAt.lit (size := 1) w t #[v] 1 rfl (by unfold maxLen; omega), fun i hi u hu => ?_⟩
  obtain rfl : i = 0 := by simp at hi; omega
  simp at hu
  subst hu
  exact h.alloc _
theorem ReadNN.lit2 {w : World} {t : TypeId} {v u : Value} {l k : List Nd} (h : ReadN w v l) (h2 : ReadN w u k) : ReadNN (w.alloc (.cells #[v, u] t)) (.slice (some ⟨w.heap.size, 0, none⟩) 2 2) [l, k] := by
  refine ⟨[v, u], rfl, RowAt.lit (size := 1) w t #[v, u] 2 rfl (by unfold maxLen; omega), fun i hi x hx => ?_⟩
  match i, hi with
  | 0, _ => simp at hx; subst hx; exact h.alloc _
  | 1, _ => simp at hx; subst hx; exact h2.alloc _

end Go.Proofs.YteldkcpkamgfpaaDoor

namespace Go.Proofs.YteldkcpkamgfpaaDoor
set_option linter.unusedSimpArgs false
set_option linter.unusedVariables false
open Go.RowKit

def OfPost (n : Nd) (L : List (List Nd)) (w : World) (e : Ending) (w' : World) : Prop := ∃ v, e = .returned v ∧ OwnN w.heap.size w' v (L.flatten ++ [n]) ∧ Below w.heap.size w w'

theorem nodeV_one (n : Nd) : ∀ u ∈ nodeV n, u.oneCell' = true := by
  intro u hu
  simp [nodeV] at hu
  rcases hu with rfl | rfl | rfl | rfl <;> rfl

def OfRel (w : World) (L : List (List Nd)) (out i : Value) (wr w0 : World) : Prop :=
  ∃ k : Nat, k ≤ L.length ∧ i = .int .i64 (k : Int) ∧ OwnN (w.heap.size + 1) wr out (L.take k).flatten ∧ Below (w.heap.size + 1) w0 wr

theorem chain2 {W a b : World} (h : Hid (Below W.heap.size W a)) (hb : Below a.heap.size a b) : Hid (Below W.heap.size W b) := h.out.trans (hb.mono h.out.size)

end Go.Proofs.YteldkcpkamgfpaaDoor

