/- schema.args: what its iterator hands on: the types of a declaration's arguments, one by one, each with its place; no condition but that what is read is read. -/
import Derived.Test.YteldkcpkamgfpaaDoorDq
namespace Go.Proofs.YteldkcpkamgfpaaDoor
set_option linter.unusedSimpArgs false
set_option linter.unusedVariables false
open Go.RowKit
attribute [local go_sem] Oper.semAt_some

/-- where the j-th of the arguments stands -/
def locT : List (List (List Nd)) → Nat → Nat × Nat
  | [], j => (0, j)
  | c :: r, j => if j < c.length then (0, j) else ((locT r (j - c.length)).1 + 1, (locT r (j - c.length)).2)
def startT (T : List (List (List Nd))) (i : Nat) : Nat := (T.take i).flatten.length
theorem startT_succ {T : List (List (List Nd))} {i : Nat} (h : i < T.length) : startT T (i + 1) = startT T i + T[i].length := by
  unfold startT
  rw [flat_takeG h, List.length_append]
theorem startT_all (T : List (List (List Nd))) : startT T T.length = T.flatten.length := by unfold startT; rw [List.take_length]
theorem startT_le (T : List (List (List Nd))) (i : Nat) : startT T i ≤ T.flatten.length := flat_leG T i
theorem locT_at : ∀ (T : List (List (List Nd))) (i k : Nat) (hi : i < T.length), k < (T[i]).length → locT T (startT T i + k) = (i, k) := by
  intro T
  induction T with
  | nil => intro i k hi; simp at hi
  | cons c r ih =>
    intro i k hi hk
    cases i with
    | zero =>
      have hk' : k < c.length := hk
      simp [startT, locT, hk']
    | succ i =>
      have hi' : i < r.length := by simpa using hi
      have hk' : k < (r[i]).length := hk
      have e : startT (c :: r) (i + 1) = c.length + startT r i := by simp [startT]
      have h1 : ¬ (startT (c :: r) (i + 1) + k < c.length) := by omega
      have h2 : startT (c :: r) (i + 1) + k - c.length = startT r i + k := by omega
      unfold locT
      rw [if_neg h1, h2, ih i k hi' hk']
theorem locT_some : ∀ (T : List (List (List Nd))) (j : Nat) (hj : j < T.flatten.length), ∃ i k, ∃ (hi : i < T.length) (hk : k < (T[i]).length), j = startT T i + k ∧ T.flatten[j] = (T[i])[k] := by
  intro T
  induction T with
  | nil => intro j hj; simp at hj
  | cons c r ih =>
    intro j hj
    by_cases h : j < c.length
    · exact ⟨0, j, by simp, h, by simp [startT], by simp [h]⟩
    · have hj' : j - c.length < r.flatten.length := by
        rw [List.flatten_cons, List.length_append] at hj
        omega
      obtain ⟨i, k, hi, hk, e1, e2⟩ := ih (j - c.length) hj'
      have e : startT (c :: r) (i + 1) = c.length + startT r i := by simp [startT]
      refine ⟨i + 1, k, by simpa using hi, hk, by omega, ?_⟩
      have : (c :: r).flatten[j] = r.flatten[j - c.length] := by
        simp only [List.flatten_cons]
        rw [List.getElem_append_right (by omega)]
      rw [this, e2]
      rfl

/-- the argument at (i, k), as it lies -/
def argV (w : World) (v : Value) (i k : Nat) : Value := match v with
  | .slice (some p) _ _ => (match w.cell? ⟨p.block, p.off + i, none⟩ with
    | some (.slice (some q) _ _) => (w.cell? ⟨q.block, q.off + k, none⟩).getD undef
    | _ => undef)
  | _ => undef
def encA (w : World) (v : Value) (T : List (List (List Nd))) (j : Nat) : Array Value := #[.agg #[.int .i64 ((locT T j).1 : Int), .int .i64 ((locT T j).2 : Int)], argV w v (locT T j).1 (locT T j).2]

theorem arg_at {w : World} {v : Value} {T : List (List (List Nd))} (h : ReadNNN w v T) {i k : Nat} (hi : i < T.length) (hk : k < (T[i]).length) :
    ∃ b off n b1 off1 n1 a2 n2, v = .slice (some ⟨b, off, none⟩) T.length n ∧ b < w.heap.size ∧ w.cell? ⟨b, off + i, none⟩ = some (.slice (some ⟨b1, off1, none⟩) (T[i]).length n1) ∧ b1 < w.heap.size ∧
      w.cell? ⟨b1, off1 + k, none⟩ = some (argV w v i k) ∧ argV w v i k = .slice a2 ((T[i])[k]).length n2 ∧ ReadN w (.slice a2 ((T[i])[k]).length n2) (T[i])[k] := by
  obtain ⟨_, ⟨h0, _⟩ | ⟨b, off, cap, rfl, hbw⟩⟩ := h.shape
  · subst h0; simp at hi
  obtain ⟨a1, n1, g1, r1⟩ := h.at hi
  obtain ⟨_, ⟨h0, _⟩ | ⟨b1, off1, cap1, he, hbw1⟩⟩ := r1.shape
  · rw [h0] at hk; simp at hk
  obtain ⟨rfl, rfl⟩ : a1 = some ⟨b1, off1, none⟩ ∧ n1 = cap1 := by simpa using he
  obtain ⟨a2, n2, g2, r2⟩ := r1.at hk
  have e : argV w (.slice (some ⟨b, off, none⟩) T.length cap) i k = .slice a2 ((T[i])[k]).length n2 := by
    unfold argV
    simp only [g1, g2]
    rfl
  exact ⟨b, off, cap, b1, off1, n1, a2, n2, rfl, hbw, g1, hbw1, by rw [e]; exact g2, e, r2⟩

set_option maxRecDepth 20000 in
set_option maxHeartbeats 2000000 in
theorem args_iter (n : Nat) (T : List (List (List Nd))) (v : Value) (bx : Nat) (K : Bset) (w00 w0 : World) (hv : ReadNNN w00 v T) (hb : Below w00.heap.size w00 w0) (hc : w0.cell? ⟨bx, 5, none⟩ = some v) (kx : K bx) (kk : ∀ g, g < w00.heap.size → K g) :
    Iter Fence.wide n Tryd.prog 61 #[.pointer (some ⟨bx, 0, none⟩)] (encA w00 v T) T.flatten.length K w0 := by
  intro l J Jx W hW hJ hJx hY h0
  have hm9 : T.length ≤ 9223372036854775807 := by have := hv.shape.1; unfold maxLen at this; omega
  have hmi : ∀ i (hi : i < T.length), (T[i]).length ≤ 9223372036854775807 := fun i hi => by
    obtain ⟨_, ⟨h0, _⟩ | ⟨b, off, cap, rfl, hbw⟩⟩ := hv.shape
    · subst h0; simp at hi
    obtain ⟨a1, n1, g1, r1⟩ := hv.at hi
    have := r1.shape.1
    unfold maxLen at this
    omega
  have hcW := hW.cell (World.block_lt_of_cell? w0 _ hc) hc
  have hcl : ∀ (p : Addr) x, p.block < w00.heap.size → w00.cell? p = some x → W.cell? p = some x := fun p x hp hx => hW.cell (K := fun b => b < w0.heap.size) (by have := hb.size; show p.block < _; omega) ((hb.cell hp).trans hx)
  have hit : ∀ i (hi : i < T.length), ∃ a1 n1, (∃ b off n, v = .slice (some ⟨b, off, none⟩) T.length n ∧ b < w00.heap.size ∧ w00.cell? ⟨b, off + i, none⟩ = some (.slice a1 (T[i]).length n1)) := fun i hi => by
    obtain ⟨_, ⟨h0, _⟩ | ⟨b, off, cap, rfl, hbw⟩⟩ := hv.shape
    · subst h0; simp at hi
    obtain ⟨a1, n1, g1, r1⟩ := hv.at hi
    exact ⟨a1, n1, b, off, cap, rfl, hbw, g1⟩
  obtain ⟨av, nv, rfl⟩ := hv.form
  have HIT := Lib.hid hit
  have HCL := Lib.hid hcl
  have HMI := Lib.hid hmi
  have HV := Lib.hid hv
  have HY := Lib.hid hY
  have HJ := Lib.hid hJ
  have HJX := Lib.hid hJx
  have H0 := Lib.hid h0
  have HKK := Lib.hid kk
  clear hit hcl hmi hv hY hJ hJx h0 kk hc hW hb
  refine callsIn_of_wp Tryd.func61 rfl trivial ?_ rfl
  simp only [Tryd.ntmps61, List.size_toArray, List.length_cons, List.length_nil, Nat.reduceAdd, Nat.reduceSub, Array.replicate_succ, Array.replicate_zero, List.push_toArray, List.append_toArray, List.nil_append, List.cons_append]
  gi_wp2_with fail
  gi_loopw [10] (fun x wr => ∃ i : Nat, i ≤ T.length ∧ x = .int .i64 (i : Int) ∧ J (startT T i) (fun _ => False) wr ∧ Kept K W wr) (fun x _ => T.length - (intOf x).toNat)
  case atStart => exact ⟨0, Nat.zero_le _, rfl, H0.out, Kept.refl _ _⟩
  case round =>
    rename World => wr
    obtain ⟨i, hi, rfl, hJw, hkw⟩ := hrel
    have HJW := Lib.hid hJw
    have HKW := Lib.hid hkw
    clear hJw hkw
    by_cases hlt : i < T.length
    · obtain ⟨a1, n1, b, off, cap, he, hbw, g0⟩ := HIT.out i hlt
      obtain ⟨rfl, rfl⟩ : av = some ⟨b, off, none⟩ ∧ nv = cap := by simpa using he
      have g1 := HKW.out.cell (p := ⟨b, off + i, none⟩) (HKK.out b hbw) (HCL.out ⟨b, off + i, none⟩ _ hbw g0)
      have hst := startT_succ hlt
      have HST := Lib.hid hst
      have hqm := HMI.out i hlt
      obtain ⟨q, hq⟩ : ∃ q, (T[i]).length = q := ⟨_, rfl⟩
      rw [hq] at g1 HST hqm
      have HQ := Lib.hid hq
      clear he g0 hst hq hcW
      gi_wp2_with fail
      gi_loopw [17] (fun x wq => ∃ k : Nat, k ≤ q ∧ x = .int .i64 (k : Int) ∧ J (startT T i + k) (fun _ => False) wq ∧ Kept K W wq) (fun x _ => q - (intOf x).toNat)
      case atStart => exact ⟨0, Nat.zero_le _, rfl, HJW.out, HKW.out⟩
      case round =>
        rename World => wq
        obtain ⟨k, hk, rfl, hJq, hkq⟩ := hrel
        have HJQ := Lib.hid hJq
        have HKQ := Lib.hid hkq
        clear hJq hkq
        by_cases hkl : k < q
        · have hkl' : k < (T[i]).length := by rw [HQ.out]; exact hkl
          obtain ⟨b', off', cap', b1, off1, m1, a2, n2, he, _, g2, hb1, g3, e4, _⟩ := arg_at HV.out hlt hkl'
          obtain ⟨⟨rfl, rfl⟩, rfl⟩ : (b = b' ∧ off = off') ∧ nv = cap' := by simpa using he
          have h1 := HKW.out.cell (p := ⟨b, off + i, none⟩) (HKK.out b hbw) (HCL.out ⟨b, off + i, none⟩ _ hbw g2)
          rw [HQ.out] at h1
          obtain ⟨rfl, rfl⟩ : a1 = some ⟨b1, off1, none⟩ ∧ n1 = m1 := by
            have := g1.symm.trans h1
            simpa using this
          have h3 := HKQ.out.cell (p := ⟨b1, off1 + k, none⟩) (HKK.out b1 hb1) (HCL.out ⟨b1, off1 + k, none⟩ _ hb1 g3)
          have hjl : startT T i + k < T.flatten.length := by
            have := startT_le T (i + 1)
            have := HST.out
            omega
          obtain ⟨fn, tmps, assign, body, hy, hR⟩ := HY.out (startT T i + k) _ wq hjl HJQ.out (fun b h => h.elim)
          have hen : encA w00 (.slice (some ⟨b, off, none⟩) T.length nv) T (startT T i + k) = #[.agg #[.int .i64 (i : Int), .int .i64 (k : Int)], .slice a2 ((T[i])[k]).length n2] := by
            unfold encA
            rw [locT_at T i k hlt hkl', e4]
          rw [hen] at hy
          rw [e4] at h3
          have HR := Lib.hid hR
          obtain ⟨u, hu⟩ : ∃ u, Value.slice a2 ((T[i])[k]).length n2 = u := ⟨_, rfl⟩
          rw [hu] at hy h3
          clear he g2 g3 e4 h1 hR hen hu hjl
          gi_wp2_with fail
          refine ⟨(fun h => by cases h), HR.out.mono ?_⟩
          rintro e w3 (⟨rfl, hj3, hk3⟩ | ⟨rfl, hj3, hk3⟩)
          · have HJ3 := Lib.hid hj3
            have HK3 : Hid (Kept K W w3) := HKQ.out.trans (hk3.mono fun b _ h => .inr h)
            clear hj3 hk3 hy h3
            gi_wp2_with fail
            refine ⟨⟨k + 1, by omega, by go_num, HJ3.out, HK3.out⟩, by simp [intOf]; omega⟩
          · have HJ3 := Lib.hid hj3
            have hjl2 : startT T i + k + 1 ≤ T.flatten.length := by
              have := startT_le T (i + 1)
              have := HST.out
              omega
            clear hj3 hk3 hy h3
            gi_wp2_with fail
            exact bodyPost_ret (results_none rfl _ _ _) rfl ⟨⟨_, rfl⟩, _, .inr ⟨startT T i + k + 1, hjl2, HJ3.out⟩⟩
        · obtain rfl : k = q := by omega
          gi_wp2_with fail
          refine ⟨⟨i + 1, by omega, by go_num, ?_, HKQ.out⟩, by simp [intOf]; omega⟩
          rw [HST.out]
          exact HJQ.out
    · obtain rfl : i = T.length := by omega
      have hJN := HJW.out
      rw [startT_all] at hJN
      have HJN := Lib.hid hJN
      clear hJN hcW
      gi_wp2_with fail
      go_end0
      exact ⟨⟨_, rfl⟩, _, .inl HJN.out⟩

theorem args_any (x0 x1 x2 x3 x4 x5 : Value) (w : World) :
    Calls Tryd.prog 35 #[.agg #[x0, x1, x2, x3, x4, x5]] w fun e w' =>
      e = .returned (.func (.func 61) #[] #[.pointer (some ⟨w.heap.size, 0, none⟩)]) ∧ w' = w.alloc (.cells #[x0, x1, x2, x3, x4, x5] 36) := by
  go_enter Tryd.func35, Tryd.ntmps35
  go_wp2
  go_ret
  exact ⟨rfl, rfl⟩

end Go.Proofs.YteldkcpkamgfpaaDoor
