/- decls: name, unless, first (and corniceref10.name); a declaration as it reads. -/
import Derived.Test.YteldkcpkamgfpaaDoorKr
import Derived.Test.YteldkcpkamgfpaaDoorEa
import Derived.Test.YteldkcpkamgfpaaDoorSchLaw
namespace Go.Proofs.YteldkcpkamgfpaaDoor
set_option linter.unusedSimpArgs false
set_option linter.unusedVariables false
open Go.RowKit

/-- the names that may be -/
def nmB (s : ByteArray) : Bool := nameB s && !keyB s

set_option maxHeartbeats 1000000 in
theorem dname_any (s : ByteArray) (hs : s.size ≤ maxLen) (w : World) :
    Calls Tryd.prog 59 #[.string s] w fun e w' => e = .returned (.bool (nmB s)) ∧ Below w.heap.size w w' := by
  obtain ⟨x1, hx1⟩ : ∃ x, nameB s = x := ⟨_, rfl⟩
  obtain ⟨x2, hx2⟩ : ∃ x, keyB s = x := ⟨_, rfl⟩
  have hk : nmB s = (x1 && !x2) := by unfold nmB; rw [hx1, hx2]
  rw [hk]
  have H1 := Lib.hid hx1
  have H2 := Lib.hid hx2
  clear hx1 hx2 hk
  go_enter Tryd.func59, Tryd.ntmps59
  go_wp2_with (go_at_call 75; refine (name_any s hs _).mono ?_)
  rintro e w1 ⟨rfl, rfl⟩
  rw [H1.out]
  cases x1
  · go_wp2_with fail
    go_ret
    exact ⟨rfl, Below.refl _ _⟩
  · go_wp2_with (go_at_call 76; refine (Keyword_any s hs _).mono ?_)
    rintro e w2 ⟨rfl, hb2⟩
    rw [H2.out]
    have HB := Lib.hid hb2
    clear hb2
    go_wp2_with fail
    go_ret
    exact ⟨by cases x2 <;> rfl, HB.out⟩

set_option maxHeartbeats 1000000 in
theorem rname_any (s : ByteArray) (hs : s.size ≤ maxLen) (w : World) :
    Calls Tryd.prog 62 #[.string s] w fun e w' => e = .returned (.bool (nmB s)) ∧ Below w.heap.size w w' := by
  obtain ⟨x1, hx1⟩ : ∃ x, nameB s = x := ⟨_, rfl⟩
  obtain ⟨x2, hx2⟩ : ∃ x, keyB s = x := ⟨_, rfl⟩
  have hk : nmB s = (x1 && !x2) := by unfold nmB; rw [hx1, hx2]
  rw [hk]
  have H1 := Lib.hid hx1
  have H2 := Lib.hid hx2
  clear hx1 hx2 hk
  go_enter Tryd.func62, Tryd.ntmps62
  go_wp2_with (go_at_call 10; refine (refname_any s hs _).mono ?_)
  rintro e w1 ⟨rfl, rfl⟩
  rw [H1.out]
  cases x1
  · go_wp2_with fail
    go_ret
    exact ⟨rfl, Below.refl _ _⟩
  · go_wp2_with (go_at_call 20; refine (refkeyword_any s _).mono ?_)
    rintro e w2 ⟨rfl, hb2⟩
    rw [H2.out]
    have HB := Lib.hid hb2
    clear hb2
    go_wp2_with fail
    go_ret
    exact ⟨by cases x2 <;> rfl, HB.out⟩

/-- a step: a function without arguments that answers e, in every later world -/
def Step (w : World) (v : Value) (e : Int) : Prop :=
  ∃ f cs, v = .func (.func f) #[] cs ∧ (∀ args w', (callFunc f args).run Tryd.prog w' = .ok (.enter f args) w') ∧
    ∀ w', Below w.heap.size w w' → Calls Tryd.prog f cs w' fun r w'' => r = .returned (.int .i64 e) ∧ Below w'.heap.size w' w''

theorem Step.later {w w1 : World} {v : Value} {e : Int} (h : Step w v e) (hb : Below w.heap.size w w1) : Step w1 v e := by
  obtain ⟨f, cs, h1, h2, h3⟩ := h
  exact ⟨f, cs, h1, h2, fun w' hw => h3 w' (hb.trans (hw.mono hb.size))⟩

set_option maxHeartbeats 1000000 in
theorem unless_any (b : Bool) (e : Int) (w : World) :
    Calls Tryd.prog 58 #[.bool b, .int .i64 e] w fun r w' => ∃ v, r = .returned v ∧ Step w' v (unl b e) ∧ Below w.heap.size w w' := by
  go_enter Tryd.func58, Tryd.ntmps58
  go_wp2_with fail
  go_ret
  obtain ⟨W, hW⟩ : ∃ m, ((w.alloc (.cells #[.bool b] 4)).alloc (.cells #[.int .i64 e] 26)) = m := ⟨_, rfl⟩
  have hs : W.heap.size = w.heap.size + 2 := by rw [← hW]; simp
  have hb : Below w.heap.size w W := by rw [← hW]; exact ((Below.refl _ _).alloc (Nat.le_refl _) _).alloc (by simp) _
  have h0 : W.cell? ⟨w.heap.size, 0, none⟩ = some (.bool b) := by
    rw [← hW, ((Below.refl (w.heap.size + 1) (w.alloc (.cells #[.bool b] 4))).alloc (by simp) _).cell (by simp), Lib.cell_of_heap (MapKept.heap_alloc w _).1]
    rfl
  have h1 : W.cell? ⟨w.heap.size + 1, 0, none⟩ = some (.int .i64 e) := by
    have hx := (MapKept.heap_alloc (w.alloc (.cells #[.bool b] 4)) (.cells #[.int .i64 e] 26)).1
    rw [hW, World.size_alloc] at hx
    rw [Lib.cell_of_heap hx]
    rfl
  refine ⟨_, rfl, ⟨74, _, rfl, enters_of Tryd.func74 (by kernel_rfl) rfl, fun w' hw' => ?_⟩, by first | exact hb | (rw [hW]; exact hb)⟩
  rw [hW] at hw'
  have g0 := (hw'.cell (p := ⟨w.heap.size, 0, none⟩) (by simp; omega)).trans h0
  have g1 := (hw'.cell (p := ⟨w.heap.size + 1, 0, none⟩) (by simp; omega)).trans h1
  clear h0 h1 hW hw' hb hs
  cases b
  · go_enter Tryd.func74, Tryd.ntmps74
    go_wp2_with fail
    go_ret
    exact ⟨rfl, Below.refl _ _⟩
  · go_enter Tryd.func74, Tryd.ntmps74
    go_wp2_with fail
    go_ret
    exact ⟨rfl, Below.refl _ _⟩

def RFirst (w : World) (L : List Int) (i : Value) (wr : World) : Prop :=
  ∃ k : Nat, k ≤ L.length ∧ i = .int .i64 k ∧ (∀ e ∈ L.take k, e = 0) ∧ Below w.heap.size w wr

theorem fstE_skip (L : List Int) (k : Nat) (h : ∀ e ∈ L.take k, e = 0) : fstE L = fstE (L.drop k) := by
  induction L generalizing k with
  | nil => simp
  | cons x r ih =>
    cases k with
    | zero => rfl
    | succ k =>
      have hx : x = 0 := h x (by simp)
      rw [List.drop_succ_cons, ← ih k (fun e he => h e (by simp [he]))]
      simp [fstE, hx]

set_option maxHeartbeats 2000000 in
theorem first_any (L : List Int) (b o c : Nat) (vs : List Value) (w : World) (hl : vs.length = L.length) (hL : L.length ≤ 1000000) (hc : ∀ (i : Nat) v, vs[i]? = some v → w.cell? ⟨b, o + i, none⟩ = some v) (hb : b < w.heap.size)
    (hs : ∀ (i : Nat) v e, vs[i]? = some v → L[i]? = some e → Step w v e) :
    Calls Tryd.prog 57 #[.slice (some ⟨b, o, none⟩) L.length c] w fun r w' => r = .returned (.int .i64 (fstE L)) ∧ Below w.heap.size w w' := by
  have HC := Lib.hid hc
  have HS := Lib.hid hs
  have a0 : RFirst w L (.int .i64 0) w := ⟨0, Nat.zero_le _, rfl, by simp, Below.refl _ _⟩
  clear hc hs
  go_enter Tryd.func57, Tryd.ntmps57
  go_wp2_with fail
  go_loopw [8] (fun i wr => RFirst w L i wr) (fun i _ => L.length - (intOf i).toNat)
  case atStart => exact a0
  case round =>
    rename World => wr
    obtain ⟨k, hk, rfl, hz, hbe⟩ := hrel
    have HZ := Lib.hid hz
    have HB := Lib.hid hbe
    clear hz hbe a0
    by_cases hlt : k < L.length
    rotate_left
    · obtain rfl : k = L.length := by omega
      have hf : fstE L = 0 := by rw [fstE_skip L L.length HZ.out]; simp [fstE]
      go_wp2_with fail
      go_ret
      exact ⟨by rw [hf]; rfl, HB.out⟩
    have hv := List.getElem?_eq_getElem (l := vs) (i := k) (by omega)
    have he := List.getElem?_eq_getElem (l := L) (i := k) hlt
    obtain ⟨v, hv2⟩ : ∃ v, vs[k] = v := ⟨_, rfl⟩
    obtain ⟨e, he2⟩ : ∃ e, L[k] = e := ⟨_, rfl⟩
    rw [hv2] at hv
    rw [he2] at he
    have c0 := (HB.out.cell (p := ⟨b, o + k, none⟩) hb).trans (HC.out k v hv)
    obtain ⟨f, cs, rfl, eg, hst⟩ := HS.out k v e hv he
    have hcall := hst wr HB.out
    have HST := Lib.hid hcall
    have hfs : fstE L = (if e = 0 then fstE (L.drop (k + 1)) else e) := by
      rw [fstE_skip L k HZ.out, List.drop_eq_getElem_cons hlt, he2]
      rfl
    have HF := Lib.hid hfs
    clear hst hcall hfs hv he hv2
    go_wp2_with (refine HST.out.mono ?_)
    rintro r w2 ⟨rfl, hb2⟩
    have HB2 := Lib.hid (HB.out.trans (hb2.mono HB.out.size))
    clear hb2 HST
    by_cases h0 : e = 0
    · subst h0
      go_wp2_with fail
      go_roundw
      case rel =>
        refine ⟨k + 1, by omega, by go_num, fun x hx => ?_, HB2.out⟩
        rw [List.take_succ_eq_append_getElem hlt, he2] at hx
        rcases List.mem_append.1 hx with h | h
        · exact HZ.out x h
        · simpa using h
      case measure => simp [intOf]; omega
    · have hne : (e != 0) = true := by simpa using h0
      go_wp2_with fail
      go_ret
      exact ⟨by rw [HF.out, if_neg h0]; rfl, HB2.out⟩

end Go.Proofs.YteldkcpkamgfpaaDoor
