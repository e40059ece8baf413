/- What slices.Backward's iterator gives, of a row of nodes: each with its place, the last one first; and that slices.Reverse turns a row of nodes round. -/
import Derived.Test.YtjhgpifccleknaaDoorEa
import Derived.BigRegion
namespace Go.Proofs.YtjhgpifccleknaaDoor
set_option linter.unusedSimpArgs false
set_option linter.unusedVariables false
open Go.RowKit
attribute [local go_sem] Oper.semAt_some

theorem bkwf_any (a : Option Addr) (n c : Nat) (w : World) :
    Calls Tryd.prog 95 #[.slice a n c] w fun e w' =>
      e = .returned (.func (.func 98) #[] #[.pointer (some ⟨w.heap.size, 0, none⟩)]) ∧ w' = w.alloc (.cells #[.slice a n c] 30) := by
  go_enter Tryd.func95, Tryd.ntmps95
  go_wp2
  go_ret
  exact ⟨rfl, rfl⟩

/-- what the iterator hands on in round j -/
def encK (l : List Nd) (j : Nat) : Array Value :=
  #[.int .i64 ((l.length - 1 - j : Nat) : Int), .agg #[.int .i64 (l.getD (l.length - 1 - j) ⟨0, 0, 0, ByteArray.empty⟩).K, .int .i64 (l.getD (l.length - 1 - j) ⟨0, 0, 0, ByteArray.empty⟩).N, .int .i64 (l.getD (l.length - 1 - j) ⟨0, 0, 0, ByteArray.empty⟩).M, .string (l.getD (l.length - 1 - j) ⟨0, 0, 0, ByteArray.empty⟩).S]]
theorem encK_at {l : List Nd} {j k : Nat} {nd : Nd} (hk : l.length = k + 1 + j) (hn : l[k]? = some nd) : encK l j = #[.int .i64 (k : Int), .agg #[.int .i64 nd.K, .int .i64 nd.N, .int .i64 nd.M, .string nd.S]] := by
  have e : l.length - 1 - j = k := by omega
  unfold encK
  rw [e, List.getD_eq_getElem?_getD, hn]
  rfl

set_option maxRecDepth 20000 in
set_option maxHeartbeats 4000000 in
theorem bkw_iter (n : Nat) (t : List Nd) (hpos : 0 < t.length) (hlen : t.length ≤ 4000) (b off cap bt : Nat) (K : Bset) (w0 : World)
    (hct : w0.cell? ⟨bt, 0, none⟩ = some (.slice (some ⟨b, off, none⟩) t.length cap))
    (hv : ReadN w0 (.slice (some ⟨b, off, none⟩) t.length cap) t) (k1 : K bt) (k2 : K b) :
    Iter Fence.wide n Tryd.prog 98 #[.pointer (some ⟨bt, 0, none⟩)] (encK t) t.length K w0 := by
  intro l J Jx W hW hJ hJx hY h0
  obtain ⟨N, hN⟩ : ∃ N, t.length = N := ⟨_, rfl⟩
  have hvW := RowAt.kept hv hW (fun g hg => by
    simp [Value.ownBlock] at hg
    subst hg
    obtain ⟨_, _, _, he, _, _, hlt, _⟩ := RowAt.pos hv (by omega)
    simp at he
    obtain ⟨⟨rfl, rfl⟩, _⟩ := he
    exact hlt)
  have hctW := hW.cell (World.block_lt_of_cell? w0 _ hct) hct
  have HVA : Hid (∀ A, Kept K W A → ReadN A (.slice (some ⟨b, off, none⟩) N cap) t) := by
    show ∀ A, _
    intro A hA
    rw [← hN]
    exact RowAt.kept hvW hA (fun g hg => by simp [Value.ownBlock] at hg; subst hg; exact k2)
  have HCT : Hid (∀ A, Kept K W A → A.cell? ⟨bt, 0, none⟩ = some (.slice (some ⟨b, off, none⟩) N cap)) := by
    show ∀ A, _
    intro A hA
    rw [← hN]
    exact hA.cell k1 hctW
  have hcap : N ≤ cap ∧ cap ≤ maxLen := by
    obtain ⟨_, _, _, he, h1, h2, _⟩ := RowAt.pos hvW (by omega)
    simp at he
    obtain ⟨_, rfl⟩ := he
    rw [← hN]
    exact ⟨h1, h2⟩
  obtain ⟨hcap1, hcap2⟩ := hcap
  have hcap3 : cap ≤ 9223372036854775807 := by unfold maxLen at hcap2; omega
  rw [hN] at hctW hlen hpos
  rw [hN] at hY ⊢
  have HY := Lib.hid hY; clear hY
  have HJ := Lib.hid hJ; clear hJ
  have HNN := Lib.hid hN; clear hN
  have H0 := Lib.hid h0; clear h0
  clear hv hct hW hvW hcap2
  refine callsIn_of_wp Tryd.func98 rfl trivial ?_ rfl
  simp only [Tryd.ntmps98, List.size_toArray, List.length_cons, List.length_nil, Nat.reduceAdd, Nat.reduceSub, Array.replicate_succ, Array.replicate_zero, List.push_toArray, List.append_toArray, List.nil_append, List.cons_append]
  gi_wp2_with fail
  gi_loopw [3] (fun i wr => ∃ j, j ≤ N ∧ i = .int .i64 ((N : Int) - 1 - j) ∧ J j (fun _ => False) wr ∧ Kept K W wr) (fun i _ => (intOf i + 1).toNat)
  case atStart => exact ⟨0, Nat.zero_le _, by simp, H0.out, Kept.refl _ _⟩
  case round =>
    rename World => wr
    obtain ⟨j, hj, rfl, hJw, hkw⟩ := hrel
    have HJW := Lib.hid hJw; clear hJw
    have HKW := Lib.hid hkw; clear hkw
    by_cases hlt : j < N
    · obtain ⟨k, hk⟩ : ∃ k, N = k + 1 + j := ⟨N - 1 - j, by omega⟩
      have e1 : (N : Int) - 1 - j = (k : Int) := by omega
      have hkN : k < N := by omega
      rw [e1]
      have hkl : k < t.length := by rw [HNN.out]; omega
      obtain ⟨nd, hnd⟩ : ∃ nd, t[k] = nd := ⟨_, rfl⟩
      have hen := encK_at (l := t) (j := j) (k := k) (nd := nd) (by rw [HNN.out]; exact hk) (by rw [← hnd]; exact List.getElem?_eq_getElem hkl)
      have cbox := HCT.out wr HKW.out
      obtain ⟨r0, r1, r2, r3⟩ : wr.cell? ⟨b, off + k * 4, none⟩ = some (.int .i64 nd.K) ∧ wr.cell? ⟨b, off + k * 4 + 1, none⟩ = some (.int .i64 nd.N) ∧ wr.cell? ⟨b, off + k * 4 + 2, none⟩ = some (.int .i64 nd.M) ∧ wr.cell? ⟨b, off + k * 4 + 3, none⟩ = some (.string nd.S) := by
        have h := HVA.out wr HKW.out
        rw [← HNN.out] at h
        obtain ⟨_, ⟨h0, _⟩ | ⟨b', off', cap', he, _, _, _, hc⟩⟩ := ReadN.cases h
        · rw [h0] at hkl; simp at hkl
        · obtain ⟨⟨rfl, rfl⟩, rfl⟩ : (b = b' ∧ off = off') ∧ cap = cap' := by simpa using he
          have := hc k hkl
          rw [hnd] at this
          exact this
      obtain ⟨fn, tmps, assign, body, hy, hR⟩ := HY.out j _ wr hlt HJW.out (fun y h => h.elim)
      rw [hen] at hy
      have HR := Lib.hid hR
      have HKK := Lib.hid hk
      clear hR hen e1 hnd hk
      gi_wp2_with fail
      refine ⟨(fun h => by cases h), HR.out.mono ?_⟩
      rintro e w3 (⟨rfl, hj3, hk3⟩ | ⟨rfl, hj3, _⟩)
      · have HJ3 := Lib.hid hj3; clear hj3
        have HK3 : Hid (Kept K W w3) := HKW.out.trans (hk3.mono fun y _ h => .inr h)
        clear hk3 hy cbox r0 r1 r2 r3
        gi_wp2_with fail
        have hk := HKK.out
        exact ⟨⟨j + 1, by omega, congrArg (Value.int .i64) (by omega), HJ3.out, HK3.out⟩, by simp [intOf]⟩
      · have HJ3 := Lib.hid hj3; clear hj3
        clear hy cbox r0 r1 r2 r3
        gi_wp2_with fail
        exact bodyPost_ret (results_none rfl _ _ _) rfl ⟨⟨_, rfl⟩, _, .inr ⟨j + 1, by omega, HJ3.out⟩⟩
    · obtain rfl : j = N := by omega
      have e1 : (j : Int) - 1 - (j : Int) = -1 := by omega
      rw [e1]
      gi_wp2_with fail
      go_end0
      exact ⟨⟨_, rfl⟩, _, .inl HJW.out⟩

end Go.Proofs.YtjhgpifccleknaaDoor
