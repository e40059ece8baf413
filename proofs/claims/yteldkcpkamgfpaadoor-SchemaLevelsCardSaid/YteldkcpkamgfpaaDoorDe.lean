/- slices.ContainsFunc of a type's constructors and decls.Check's own test; decls.closed; no condition but that what is read is read. -/
import Derived.Test.YteldkcpkamgfpaaDoorDd
namespace Go.Proofs.YteldkcpkamgfpaaDoor
set_option linter.unusedSimpArgs false
set_option linter.unusedVariables false
open Go.RowKit

theorem manyc_any (a : Option Addr) (n c : Nat) (hn : n ≤ 9223372036854775807) (w : World) :
    Calls Tryd.prog 56 #[.slice a n c] w fun e w' => e = .returned (.bool (decide (6 < n))) ∧ w = w' := by
  go_enter Tryd.func56, Tryd.ntmps56
  by_cases h : 6 < n
  · have d1 : decide ((n : Int) > 6) = true := by simp; omega
    have d2 : decide ((6 : Int) < n) = true := by simp; omega
    have d3 : decide (6 < n) = true := by simp; omega
    rw [d3]
    go_wp2_with fail
    go_ret
    exact ⟨rfl, rfl⟩
  · have d1 : decide ((n : Int) > 6) = false := by simp; omega
    have d2 : decide ((6 : Int) < n) = false := by simp; omega
    have d3 : decide (6 < n) = false := by simp; omega
    rw [d3]
    go_wp2_with fail
    go_ret
    exact ⟨rfl, rfl⟩

def bigC (T : List (List (List Nd))) : Bool := T.any fun c => decide (6 < c.length)
def RMany (T : List (List (List Nd))) (i : Value) : Prop := ∃ k : Nat, k ≤ T.length ∧ i = .int .i64 k ∧ ∀ c ∈ T.take k, decide (6 < c.length) = false
def idxPost (b : Bool) (w : World) (e : Ending) (w' : World) : Prop := ∃ n : Int, e = .returned (.int .i64 n) ∧ decide (0 ≤ n) = b ∧ w = w'

set_option maxHeartbeats 2000000 in
theorem many_idx (T : List (List (List Nd))) (v : Value) (w : World) (h : ReadNNN w v T) :
    Calls Tryd.prog 73 #[v, .func (.func 56) #[] #[]] w (idxPost (bigC T) w) := by
  have HV := Lib.hid h
  have hmax : ∀ k (hk : k < T.length), T[k].length ≤ 9223372036854775807 := fun k hk => by
    obtain ⟨vs, hl, hr, he⟩ := h
    have := (he k hk vs[k] (List.getElem?_eq_getElem (by omega))).shape.1
    unfold maxLen at this
    omega
  have HX := Lib.hid hmax
  clear hmax
  obtain ⟨hm, ⟨h0, a, cap, rfl⟩ | ⟨b, off, cap, rfl, hbw⟩⟩ := h.shape
  · subst h0
    clear h
    go_enter Tryd.func73, Tryd.ntmps73
    go_wp2_with fail
    go_loopw [8] (fun i wr => i = .int .i64 0 ∧ wr = w) (fun _ _ => 0)
    case atStart => exact ⟨rfl, rfl⟩
    case round =>
      obtain ⟨rfl, rfl⟩ := hrel
      go_wp2_with fail
      go_ret
      exact ⟨-1, rfl, rfl, rfl⟩
  clear h
  have hm9 : T.length ≤ 9223372036854775807 := by unfold maxLen at hm; omega
  clear hm
  go_enter Tryd.func73, Tryd.ntmps73
  go_wp2_with fail
  go_loopw [8] (fun i wr => RMany T i ∧ wr = w) (fun i _ => T.length - (intOf i).toNat)
  case atStart => exact ⟨⟨0, Nat.zero_le _, rfl, by simp⟩, rfl⟩
  case round =>
    obtain ⟨⟨k, hk, rfl, hz⟩, rfl⟩ := hrel
    have HZ := Lib.hid hz
    clear hz
    by_cases hlt : k < T.length
    rotate_left
    · obtain rfl : k = T.length := by omega
      have hf : bigC T = false := by
        unfold bigC
        rw [List.any_eq_false]
        intro c hc
        have := HZ.out c (by rw [List.take_length]; exact hc)
        simpa using this
      go_wp2_with fail
      go_ret
      exact ⟨-1, rfl, by rw [hf]; rfl, rfl⟩
    obtain ⟨a1, n1, g0, r1⟩ := HV.out.at hlt
    have hx := HX.out k hlt
    obtain ⟨q, hq⟩ : ∃ q, T[k].length = q := ⟨_, rfl⟩
    have HQ := Lib.hid hq
    rw [hq] at g0 hx
    clear r1 hq
    go_wp2_with (go_at_call 56; refine (manyc_any a1 q n1 hx _).mono ?_)
    rintro e w2 ⟨rfl, rfl⟩
    by_cases hb : 6 < q
    · have d3 : decide (6 < q) = true := by simp; omega
      rw [d3]
      have hf : bigC T = true := by
        unfold bigC
        rw [List.any_eq_true]
        exact ⟨T[k], List.getElem_mem hlt, by rw [HQ.out]; exact d3⟩
      go_wp2_with fail
      go_ret
      exact ⟨k, rfl, by rw [hf]; simp, rfl⟩
    · have d3 : decide (6 < q) = false := by simp; omega
      rw [d3]
      go_wp2_with fail
      go_roundw
      case rel =>
        refine ⟨⟨k + 1, by omega, by go_num, fun c hc => ?_⟩, trivial⟩
        rw [List.take_succ_eq_append_getElem hlt] at hc
        rcases List.mem_append.1 hc with h | h
        · exact HZ.out c h
        · simp at h; subst h; rw [HQ.out]; exact d3
      case measure => simp [intOf]; omega

set_option maxHeartbeats 1000000 in
theorem many_has (T : List (List (List Nd))) (v : Value) (w : World) (h : ReadNNN w v T) :
    Calls Tryd.prog 55 #[v, .func (.func 56) #[] #[]] w fun e w' => e = .returned (.bool (bigC T)) ∧ w = w' := by
  have H := Lib.hid (many_idx T v w h)
  obtain ⟨a, c, rfl⟩ := h.form
  clear h
  obtain ⟨x, hx⟩ : ∃ x, bigC T = x := ⟨_, rfl⟩
  rw [hx] at H ⊢
  clear hx
  go_enter Tryd.func55, Tryd.ntmps55
  go_wp2_with (go_at_call 73; refine H.out.mono ?_)
  rintro e w2 ⟨n, rfl, hn, rfl⟩
  have hn2 : decide (n ≥ 0) = x := hn
  go_wp2_with fail
  go_ret
  first | exact ⟨rfl, rfl⟩ | exact ⟨by simp [hn], rfl⟩

set_option maxHeartbeats 1000000 in
theorem closed_any (d : Dc) (vt vb vc : Value) (w : World) (h : DeclV w d vt vb vc) (hS : ShapesAt w) (hs : SmallNN (termsD d)) (hn : d.Cons.flatten.length ≤ 1000000) :
    Calls Tryd.prog 60 #[declV d vt vb vc] w fun r w' => ∃ v, r = .returned v ∧ Step w' v (fstE ((termsD d).map (closE freeN))) ∧ Below w.heap.size w w' := by
  have HD := Lib.hid h
  have HS := Lib.hid hS
  obtain ⟨a1, n1, rfl⟩ := ReadN.len_slice h.ty
  obtain ⟨a2, n2, rfl⟩ := ReadN.len_slice h.bd
  obtain ⟨a3, n3, rfl⟩ := h.cons.form
  clear h hS
  unfold declV
  obtain ⟨W, hW⟩ : ∃ m, w.alloc (.cells #[.int .i64 d.Kind, .int .i64 d.Level, .string d.Name, .slice a1 d.Ty.length n1, .slice a2 d.Bd.length n2, .slice a3 d.Cons.length n3] 36) = m := ⟨_, rfl⟩
  have hb : Below w.heap.size w W := by rw [← hW]; exact (Below.refl _ _).alloc (Nat.le_refl _) _
  have hsz : w.heap.size < W.heap.size := by rw [← hW]; simp
  have hcs := (MapKept.heap_alloc w (.cells #[.int .i64 d.Kind, .int .i64 d.Level, .string d.Name, .slice a1 d.Ty.length n1, .slice a2 d.Bd.length n2, .slice a3 d.Cons.length n3] 36)).1
  rw [hW] at hcs
  have HC := Lib.hid hcs
  have HB := Lib.hid hb
  have HZ := Lib.hid hsz
  clear hcs hb hsz
  go_enter Tryd.func60, Tryd.ntmps60
  go_wp2_with fail
  go_ret
  first | rw [hW] | skip
  refine ⟨_, rfl, ⟨77, _, rfl, enters_of Tryd.func77 (by kernel_rfl) rfl, fun w' hw' => ?_⟩, HB.out⟩
  have hx := fun (j : Nat) => hw'.cell (p := ⟨w.heap.size, j, none⟩) HZ.out
  have hbb : Below w.heap.size w w' := HB.out.trans (hw'.mono HB.out.size)
  exact closed_run d _ _ _ w.heap.size w' (HD.out.below hbb) (HS.out.below hbb) hs hn
    ((hx 0).trans (by rw [Lib.cell_of_heap HC.out]; rfl)) ((hx 1).trans (by rw [Lib.cell_of_heap HC.out]; rfl)) ((hx 2).trans (by rw [Lib.cell_of_heap HC.out]; rfl))
    ((hx 3).trans (by rw [Lib.cell_of_heap HC.out]; rfl)) ((hx 4).trans (by rw [Lib.cell_of_heap HC.out]; rfl)) ((hx 5).trans (by rw [Lib.cell_of_heap HC.out]; rfl))

end Go.Proofs.YteldkcpkamgfpaaDoor
