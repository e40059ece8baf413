/- scope.newResolver, (*resolver).keyword, scope.Keyword; no condition but a string's size. -/
import Derived.Test.YteldkcpkamgfpaaDoorKw
namespace Go.Proofs.YteldkcpkamgfpaaDoor
set_option linter.unusedSimpArgs false
set_option linter.unusedVariables false
open Go.RowKit Go.Maps

theorem cell_lt {w : World} {a : Addr} {v : Value} (h : w.cell? a = some v) : a.block < w.heap.size := by
  rcases Nat.lt_or_ge a.block w.heap.size with h' | h'
  · exact h'
  · have : w.heap[a.block]? = none := Array.getElem?_eq_none h'
    simp [World.cell?, this] at h

/-- a resolver at block p, whose maps are the two -/
def ResAt (p : Nat) (w : World) : Prop :=
  ∃ b1 b2, w.cell? ⟨p, 2, none⟩ = some (.map (some b1)) ∧ w.cell? ⟨p, 3, none⟩ = some (.map (some b2)) ∧ KeysAt formSh b1 formsL 28 w ∧ KeysAt nodeSh b2 aloneL 7 w

set_option maxHeartbeats 2000000 in
set_option maxRecDepth 100000 in
theorem newres_any (w : World) :
    Calls Tryd.prog 84 #[.agg #[.slice none 0 0, .slice none 0 0]] w fun e w' => ∃ p, e = .returned (.pointer (some ⟨p, 0, none⟩)) ∧ ResAt p w' ∧ Below w.heap.size w w' := by
  go_enter Tryd.func84, Tryd.ntmps84
  go_wp2_with fail
  obtain ⟨W, hW⟩ : ∃ m, w.alloc (.cells #[.slice none 0 0, .slice none 0 0] 117) = m := ⟨_, rfl⟩
  have hc0 : W.cell? ⟨w.heap.size, 0, none⟩ = some (.slice none 0 0) := by rw [← hW, Lib.cell_of_heap (MapKept.heap_alloc w _).1]; rfl
  have hc1 : W.cell? ⟨w.heap.size, 1, none⟩ = some (.slice none 0 0) := by rw [← hW, Lib.cell_of_heap (MapKept.heap_alloc w _).1]; rfl
  have hbW : Below w.heap.size w W := by rw [← hW]; exact (Below.refl _ _).alloc (Nat.le_refl _) _
  have hsW : w.heap.size < W.heap.size := by rw [← hW]; simp
  rw [hW]
  clear hW
  have HB := Lib.hid hbW
  clear hbW
  have hx0 : ∀ x : BW W.heap.size W, x.w.cell? ⟨w.heap.size, 0, none⟩ = some (.slice none 0 0) := fun x => (x.h.cell hsW).trans hc0
  have hx1 : ∀ x : BW W.heap.size W, x.w.cell? ⟨w.heap.size, 1, none⟩ = some (.slice none 0 0) := fun x => (x.h.cell hsW).trans hc1
  refine wp_region_mix (fun w' => ∃ x : BW W.heap.size W, w' = x.w) [(true, 0), (false, 1), (false, 2), (false, 3), (false, 4), (true, 5)] (by kernel_rfl) (by kernel_rfl) ⟨⟨_, (Below.refl _ _).drew⟩, rfl⟩ ?_
  refine mix_calm ⟨_, ⟨⟨_, Below.refl _ _⟩, rfl⟩⟩ _ [0] [_] _ rfl rfl ?_
  simp only [List.getElem_toArray, List.getElem_cons_zero, List.getElem_cons_succ]
  go_big_quiet_want
  go_big_quiet_op
  go_big_quiet_on
  refine wpQuiet_nil ?_
  have hb0 : Below W.heap.size W W.drew := (Below.refl _ _).drew
  obtain ⟨W1, hW1⟩ : ∃ m, W.drew = m := ⟨_, rfl⟩
  rw [hW1] at hb0 ⊢
  clear hW1 hx0 hx1 hc0 hc1
  refine mix_one rfl ?_
  simp only [List.getElem_toArray, List.getElem_cons_zero, List.getElem_cons_succ]
  go_wp2_with (go_at_call 92; refine (forms_any _).mono ?_)
  rintro e w2 ⟨b1, rfl, h1⟩
  have hb1 : Below W.heap.size W w2 := hb0.trans (h1.bel.mono hb0.size)
  have HX1 := Lib.hid h1
  clear h1
  go_wp2_with fail
  refine ⟨⟨⟨_, hb1⟩, rfl⟩, ?_⟩
  refine mix_one rfl ?_
  simp only [List.getElem_toArray, List.getElem_cons_zero, List.getElem_cons_succ]
  go_wp2_with (go_at_call 93; refine (alone_any _).mono ?_)
  rintro e w3 ⟨b2, rfl, h2⟩
  have hb2 : Below W.heap.size W w3 := hb1.trans (h2.bel.mono hb1.size)
  have k1 : KeysAt formSh b1 formsL 28 w3 := HX1.out.keys.below h2.bel HX1.out.keys.lt
  have HX2 := Lib.hid (And.intro k1 h2.keys)
  clear h2 k1 HX1
  go_wp2_with fail
  refine ⟨⟨⟨_, hb2⟩, rfl⟩, ?_⟩
  refine mix_one rfl ?_
  simp only [List.getElem_toArray, List.getElem_cons_zero, List.getElem_cons_succ]
  go_wp2_with fail
  refine ⟨⟨⟨_, hb2⟩, rfl⟩, ?_⟩
  refine mix_one rfl ?_
  simp only [List.getElem_toArray, List.getElem_cons_zero, List.getElem_cons_succ]
  go_wp2_with fail
  obtain ⟨W4, hW4⟩ : ∃ m, w3.alloc (.cells #[.slice none 0 0, .slice none 0 0, .map (some b1), .map (some b2), .slice none 0 0, .int .i64 0, .int .i64 0] 130) = m := ⟨_, rfl⟩
  have hc2 : W4.cell? ⟨w3.heap.size, 2, none⟩ = some (.map (some b1)) := by rw [← hW4, Lib.cell_of_heap (MapKept.heap_alloc w3 _).1]; rfl
  have hc3 : W4.cell? ⟨w3.heap.size, 3, none⟩ = some (.map (some b2)) := by rw [← hW4, Lib.cell_of_heap (MapKept.heap_alloc w3 _).1]; rfl
  have hb4 : Below W.heap.size W W4 := by rw [← hW4]; exact hb2.alloc hb2.size _
  have HX4 : Hid (ResAt w3.heap.size W4) := Lib.hid ⟨b1, b2, hc2, hc3, by rw [← hW4]; exact HX2.out.1.alloc _, by rw [← hW4]; exact HX2.out.2.alloc _⟩
  rw [hW4]
  clear hW4 hc2 hc3 HX2
  refine ⟨⟨⟨_, hb4⟩, rfl⟩, ?_⟩
  refine mix_calm ⟨_, ⟨⟨_, Below.refl _ _⟩, rfl⟩⟩ _ [5] [_] _ rfl rfl ?_
  simp only [List.getElem_toArray, List.getElem_cons_zero, List.getElem_cons_succ]
  go_big_quiet_want
  go_big_quiet_op
  go_big_quiet_on
  refine wpQuiet_nil ?_
  refine mix_nil ?_
  go_wp2_with fail
  go_ret
  exact ⟨_, rfl, HX4.out, HB.out.trans (hb4.mono HB.out.size)⟩

def keyB (s : ByteArray) : Bool := formsL.contains s.data.toList || aloneL.contains s.data.toList

theorem zero_form (w : World) : (zeroValue 132).run Tryd.prog w = .ok (.agg #[.int .i64 0, .int .i64 0, .int .i64 0, .string ⟨#[]⟩, .string ⟨#[]⟩]) w := by kernel_rfl
theorem zero_node (w : World) : (zeroValue 30).run Tryd.prog w = .ok (.agg #[.int .i64 0, .int .i64 0, .int .i64 0, .string ⟨#[]⟩]) w := by kernel_rfl

set_option maxHeartbeats 2000000 in
set_option maxRecDepth 100000 in
theorem keyword_any (p : Nat) (s : ByteArray) (hs : s.size ≤ maxLen) (w : World) (h : ResAt p w) :
    Calls Tryd.prog 85 #[.pointer (some ⟨p, 0, none⟩), .string s] w fun e w' => e = .returned (.bool (keyB s)) ∧ Below w.heap.size w w' := by
  obtain ⟨b1, b2, c2, c3, h1, h2⟩ := h
  obtain ⟨D1, o1, i1, k1⟩ := h1
  obtain ⟨D2, o2, i2, k2⟩ := h2
  have hkey : keyOf Tryd.prog 9 (.string s) = some (.string s.data.toList) := Go.WideMaps.keyOf_string_mk Tryd.underlying9 hs
  have HK1 := Lib.hid k1
  have HK2 := Lib.hid k2
  clear i1 i2 k1 k2
  obtain ⟨x1, hx1⟩ : ∃ x, formsL.contains s.data.toList = x := ⟨_, rfl⟩
  obtain ⟨x2, hx2⟩ : ∃ x, aloneL.contains s.data.toList = x := ⟨_, rfl⟩
  go_enter Tryd.func85, Tryd.ntmps85
  go_wp2_with (first
    | (at_lookup; refine wpList_lookup_own_ok _ rfl _ _ 125 rfl 9 132 (string_keyed Tryd.underlying9) Tryd.underlying125 (shR formSh) (zero_form _) .nil [] rfl b1 28 D1 rfl o1 _ _ rfl hkey ?_)
    | go_in)
  intro v ps hv
  obtain ⟨k1, n1, m1, s1, t1, rfl⟩ := formSh_of (shR_of hv)
  rw [HK1.out, hx1]
  clear hv
  have hpl : p < w.heap.size := cell_lt c2
  have c3' := (((Below.refl w.heap.size w).alloc (Nat.le_refl _) (.cells #[.int .i64 k1, .int .i64 n1, .int .i64 m1, .string s1, .string t1] 132)).cell (p := ⟨p, 3, none⟩) hpl).trans c3
  have o2' := o2.alloc (.cells #[.int .i64 k1, .int .i64 n1, .int .i64 m1, .string s1, .string t1] 132)
  have hB1 := (Below.refl w.heap.size w).alloc (Nat.le_refl _) (.cells #[.int .i64 k1, .int .i64 n1, .int .i64 m1, .string s1, .string t1] 132)
  have HB1 := Lib.hid hB1
  clear hB1 c2 c3 o1 o2
  go_wp2_with (first
    | (at_lookup; refine wpList_lookup_own_ok _ rfl _ _ 127 rfl 9 30 (string_keyed Tryd.underlying9) Tryd.underlying127 (shR nodeSh) (zero_node _) .nil [] rfl b2 7 D2 rfl o2' _ _ rfl hkey ?_)
    | go_in)
  intro v ps hv
  obtain ⟨k2, n2, m2, s2, rfl⟩ := nodeSh_of (shR_of hv)
  rw [HK2.out, hx2]
  clear hv
  cases x1
  · go_wp2_with fail
    go_ret
    exact ⟨by unfold keyB; rw [hx1, hx2]; rfl, HB1.out.alloc HB1.out.size _⟩
  · go_wp2_with fail
    go_ret
    exact ⟨by unfold keyB; rw [hx1, hx2]; rfl, HB1.out.alloc HB1.out.size _⟩

set_option maxHeartbeats 2000000 in
set_option maxRecDepth 100000 in
theorem Keyword_any (s : ByteArray) (hs : s.size ≤ maxLen) (w : World) :
    Calls Tryd.prog 76 #[.string s] w fun e w' => e = .returned (.bool (keyB s)) ∧ Below w.heap.size w w' := by
  go_enter Tryd.func76, Tryd.ntmps76
  go_wp2_with (go_at_call 84; refine (newres_any _).mono ?_)
  rintro e w1 ⟨p, rfl, h1, hb1⟩
  have HB1 := Lib.hid hb1
  clear hb1
  go_wp2_with (go_at_call 85; refine (keyword_any p s hs _ h1).mono ?_)
  rintro e w2 ⟨rfl, hb2⟩
  have HB2 := Lib.hid hb2
  clear hb2 h1
  go_wp2_with fail
  go_ret
  exact ⟨rfl, HB1.out.trans (HB2.out.mono HB1.out.size)⟩

end Go.Proofs.YteldkcpkamgfpaaDoor
