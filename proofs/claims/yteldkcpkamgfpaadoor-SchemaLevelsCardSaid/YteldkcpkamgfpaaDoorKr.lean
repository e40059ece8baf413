/- corniceref08.form, leaf, Keyword: which words are theirs; no condition but a string's size. -/
import Derived.Test.YteldkcpkamgfpaaDoorKx
namespace Go.Proofs.YteldkcpkamgfpaaDoor
set_option linter.unusedSimpArgs false
set_option linter.unusedVariables false
open Go.RowKit Go.Maps

theorem pick_true {s : ByteArray} {l : List UInt8} (h : (s.toList == l) = true) : s.data.toList = l := by rw [ByteArray.toList_eq] at h; simpa using h
theorem pick_false {s : ByteArray} {l : List UInt8} (h : (s.toList == l) = false) : (s.data.toList == l) = false := by rw [ByteArray.toList_eq] at h; exact h
theorem pick_in {s : ByteArray} {l : List UInt8} {L : List (List UInt8)} {b : Bool} (h : (s.toList == l) = true) (hL : Hid (L.contains s.data.toList = b)) (hc : L.contains l = true) : true = b := by
  have e := hL.out
  rw [pick_true h, hc] at e
  exact e

theorem leaf_none {s : ByteArray} {b : Bool} (hL : Hid (aloneL.contains s.data.toList = b)) (h0 : (s.toList == [80, 114, 111, 112]) = false) (h1 : (s.toList == [78, 97, 116]) = false) (h2 : (s.toList == [122, 101, 114, 111]) = false) (h3 : (s.toList == [69, 109, 112, 116, 121]) = false) (h4 : (s.toList == [85, 110, 105, 116]) = false) (h5 : (s.toList == [115, 116, 97, 114]) = false) (h6 : (s.toList == [116, 105, 99, 107]) = false) : false = b := by
  have e := hL.out
  have g : aloneL.contains s.data.toList = false := by
    rw [show aloneL = [[116, 105, 99, 107], [115, 116, 97, 114], [85, 110, 105, 116], [69, 109, 112, 116, 121], [122, 101, 114, 111], [78, 97, 116], [80, 114, 111, 112]] from rfl]
    simp only [List.contains_cons, List.contains_nil, pick_false h0, pick_false h1, pick_false h2, pick_false h3, pick_false h4, pick_false h5, pick_false h6]
    rfl
  rw [g] at e
  exact e

set_option maxHeartbeats 8000000 in
set_option maxRecDepth 100000 in
theorem leaf_any (s : ByteArray) (w : World) :
    Calls Tryd.prog 39 #[.string s] w fun e w' => ∃ k n m t, e = .returned (.tuple #[.agg #[.int .i64 k, .int .i64 n, .int .i64 m, .string t], .bool (aloneL.contains s.data.toList)]) ∧ Below w.heap.size w w' := by
  obtain ⟨L, hL⟩ : ∃ L, aloneL.contains s.data.toList = L := ⟨_, rfl⟩
  rw [hL]
  have HL := Lib.hid hL
  clear hL
  have hb : ∀ o : Obj, Below w.heap.size w (w.alloc o) := fun o => (Below.refl _ _).alloc (Nat.le_refl _) o
  go_enter Tryd.func39, Tryd.ntmps39
  go_wp2_with fail
  · have q := pick_in (by assumption) HL (by decide)
    subst q
    exact bodyPost_ret (v := .tuple #[.agg #[.int .i64 2, .int .i64 0, .int .i64 0, .string ⟨#[]⟩], .bool true]) (by simp [results, Tryd.results39, go_sem]) rfl ⟨_, _, _, _, rfl, hb _⟩
  · have q := pick_in (by assumption) HL (by decide)
    subst q
    exact bodyPost_ret (v := .tuple #[.agg #[.int .i64 10, .int .i64 0, .int .i64 0, .string ⟨#[]⟩], .bool true]) (by simp [results, Tryd.results39, go_sem]) rfl ⟨_, _, _, _, rfl, hb _⟩
  · have q := pick_in (by assumption) HL (by decide)
    subst q
    exact bodyPost_ret (v := .tuple #[.agg #[.int .i64 11, .int .i64 0, .int .i64 0, .string ⟨#[]⟩], .bool true]) (by simp [results, Tryd.results39, go_sem]) rfl ⟨_, _, _, _, rfl, hb _⟩
  · have q := pick_in (by assumption) HL (by decide)
    subst q
    exact bodyPost_ret (v := .tuple #[.agg #[.int .i64 14, .int .i64 0, .int .i64 0, .string ⟨#[]⟩], .bool true]) (by simp [results, Tryd.results39, go_sem]) rfl ⟨_, _, _, _, rfl, hb _⟩
  · have q := pick_in (by assumption) HL (by decide)
    subst q
    exact bodyPost_ret (v := .tuple #[.agg #[.int .i64 16, .int .i64 0, .int .i64 0, .string ⟨#[]⟩], .bool true]) (by simp [results, Tryd.results39, go_sem]) rfl ⟨_, _, _, _, rfl, hb _⟩
  · have q := pick_in (by assumption) HL (by decide)
    subst q
    exact bodyPost_ret (v := .tuple #[.agg #[.int .i64 17, .int .i64 0, .int .i64 0, .string ⟨#[]⟩], .bool true]) (by simp [results, Tryd.results39, go_sem]) rfl ⟨_, _, _, _, rfl, hb _⟩
  · have q := pick_in (by assumption) HL (by decide)
    subst q
    exact bodyPost_ret (v := .tuple #[.agg #[.int .i64 29, .int .i64 0, .int .i64 0, .string ⟨#[]⟩], .bool true]) (by simp [results, Tryd.results39, go_sem]) rfl ⟨_, _, _, _, rfl, hb _⟩
  go_wp2_with fail
  have q := leaf_none HL (by assumption) (by assumption) (by assumption) (by assumption) (by assumption) (by assumption) (by assumption) 
  subst q
  exact bodyPost_ret (v := .tuple #[.agg #[.int .i64 0, .int .i64 0, .int .i64 0, .string ⟨#[]⟩], .bool false]) (by simp [results, Tryd.results39, go_sem]) rfl ⟨_, _, _, _, rfl, hb _⟩

theorem form_none {s : ByteArray} {b : Bool} (hL : Hid (formsL.contains s.data.toList = b)) (h0 : (s.toList == [84, 121, 112, 101]) = false) (h1 : (s.toList == [112, 105]) = false) (h2 : (s.toList == [112, 105, 49]) = false) (h3 : (s.toList == [112, 105, 50]) = false) (h4 : (s.toList == [112, 105, 51]) = false) (h5 : (s.toList == [115, 105, 103]) = false) (h6 : (s.toList == [115, 105, 103, 49]) = false) (h7 : (s.toList == [115, 105, 103, 50]) = false) (h8 : (s.toList == [115, 105, 103, 51]) = false) (h9 : (s.toList == [108, 97, 109]) = false) (h10 : (s.toList == [97, 112, 112]) = false) (h11 : (s.toList == [112, 97, 105, 114]) = false) (h12 : (s.toList == [102, 115, 116]) = false) (h13 : (s.toList == [115, 110, 100]) = false) (h14 : (s.toList == [115, 117, 99]) = false) (h15 : (s.toList == [112, 114, 102]) = false) (h16 : (s.toList == [114, 101, 99]) = false) (h17 : (s.toList == [97, 98, 111, 114, 116]) = false) (h18 : (s.toList == [101, 113]) = false) (h19 : (s.toList == [114, 101, 102, 108]) = false) (h20 : (s.toList == [99, 97, 115, 116]) = false) (h21 : (s.toList == [116, 114, 97, 110, 115, 112]) = false) (h22 : (s.toList == [113, 117, 111, 116]) = false) (h23 : (s.toList == [99, 108, 97, 115, 115]) = false) (h24 : (s.toList == [113, 101, 108, 105, 109]) = false) (h25 : (s.toList == [100, 97, 116, 97]) = false) (h26 : (s.toList == [99, 111, 110]) = false) (h27 : (s.toList == [101, 108, 105, 109]) = false) : false = b := by
  have e := hL.out
  have g : formsL.contains s.data.toList = false := by
    rw [show formsL = [[115, 105, 103, 51], [112, 105, 51], [115, 105, 103, 50], [112, 105, 50], [115, 105, 103, 49], [112, 105, 49], [115, 105, 103], [112, 105], [101, 108, 105, 109], [99, 111, 110], [100, 97, 116, 97], [113, 101, 108, 105, 109], [99, 108, 97, 115, 115], [113, 117, 111, 116], [116, 114, 97, 110, 115, 112], [99, 97, 115, 116], [114, 101, 102, 108], [101, 113], [97, 98, 111, 114, 116], [114, 101, 99], [112, 114, 102], [115, 117, 99], [115, 110, 100], [102, 115, 116], [112, 97, 105, 114], [97, 112, 112], [108, 97, 109], [84, 121, 112, 101]] from rfl]
    simp only [List.contains_cons, List.contains_nil, pick_false h0, pick_false h1, pick_false h2, pick_false h3, pick_false h4, pick_false h5, pick_false h6, pick_false h7, pick_false h8, pick_false h9, pick_false h10, pick_false h11, pick_false h12, pick_false h13, pick_false h14, pick_false h15, pick_false h16, pick_false h17, pick_false h18, pick_false h19, pick_false h20, pick_false h21, pick_false h22, pick_false h23, pick_false h24, pick_false h25, pick_false h26, pick_false h27]
    rfl
  rw [g] at e
  exact e

set_option maxHeartbeats 8000000 in
set_option maxRecDepth 100000 in
theorem form_any (s : ByteArray) (w : World) :
    Calls Tryd.prog 38 #[.string s] w fun e w' => ∃ k n t, e = .returned (.tuple #[.agg #[.int .i64 k, .int .i64 n, .string t], .bool (formsL.contains s.data.toList)]) ∧ Below w.heap.size w w' := by
  obtain ⟨L, hL⟩ : ∃ L, formsL.contains s.data.toList = L := ⟨_, rfl⟩
  rw [hL]
  have HL := Lib.hid hL
  clear hL
  have hb : ∀ o : Obj, Below w.heap.size w (w.alloc o) := fun o => (Below.refl _ _).alloc (Nat.le_refl _) o
  go_enter Tryd.func38, Tryd.ntmps38
  go_wp2_with fail
  · have q := pick_in (by assumption) HL (by decide)
    subst q
    exact bodyPost_ret (v := .tuple #[.agg #[.int .i64 2, .int .i64 0, .string ⟨#[110]⟩], .bool true]) (by simp [results, Tryd.results38, go_sem]) rfl ⟨_, _, _, rfl, hb _⟩
  · have q := pick_in (by assumption) HL (by decide)
    subst q
    exact bodyPost_ret (v := .tuple #[.agg #[.int .i64 3, .int .i64 0, .string ⟨#[46, 118, 46]⟩], .bool true]) (by simp [results, Tryd.results38, go_sem]) rfl ⟨_, _, _, rfl, hb _⟩
  · have q := pick_in (by assumption) HL (by decide)
    subst q
    exact bodyPost_ret (v := .tuple #[.agg #[.int .i64 3, .int .i64 1, .string ⟨#[46, 118, 46]⟩], .bool true]) (by simp [results, Tryd.results38, go_sem]) rfl ⟨_, _, _, rfl, hb _⟩
  · have q := pick_in (by assumption) HL (by decide)
    subst q
    exact bodyPost_ret (v := .tuple #[.agg #[.int .i64 3, .int .i64 2, .string ⟨#[46, 118, 46]⟩], .bool true]) (by simp [results, Tryd.results38, go_sem]) rfl ⟨_, _, _, rfl, hb _⟩
  · have q := pick_in (by assumption) HL (by decide)
    subst q
    exact bodyPost_ret (v := .tuple #[.agg #[.int .i64 3, .int .i64 3, .string ⟨#[46, 118, 46]⟩], .bool true]) (by simp [results, Tryd.results38, go_sem]) rfl ⟨_, _, _, rfl, hb _⟩
  · have q := pick_in (by assumption) HL (by decide)
    subst q
    exact bodyPost_ret (v := .tuple #[.agg #[.int .i64 6, .int .i64 0, .string ⟨#[46, 118, 46]⟩], .bool true]) (by simp [results, Tryd.results38, go_sem]) rfl ⟨_, _, _, rfl, hb _⟩
  · have q := pick_in (by assumption) HL (by decide)
    subst q
    exact bodyPost_ret (v := .tuple #[.agg #[.int .i64 6, .int .i64 1, .string ⟨#[46, 118, 46]⟩], .bool true]) (by simp [results, Tryd.results38, go_sem]) rfl ⟨_, _, _, rfl, hb _⟩
  · have q := pick_in (by assumption) HL (by decide)
    subst q
    exact bodyPost_ret (v := .tuple #[.agg #[.int .i64 6, .int .i64 2, .string ⟨#[46, 118, 46]⟩], .bool true]) (by simp [results, Tryd.results38, go_sem]) rfl ⟨_, _, _, rfl, hb _⟩
  · have q := pick_in (by assumption) HL (by decide)
    subst q
    exact bodyPost_ret (v := .tuple #[.agg #[.int .i64 6, .int .i64 3, .string ⟨#[46, 118, 46]⟩], .bool true]) (by simp [results, Tryd.results38, go_sem]) rfl ⟨_, _, _, rfl, hb _⟩
  · have q := pick_in (by assumption) HL (by decide)
    subst q
    exact bodyPost_ret (v := .tuple #[.agg #[.int .i64 4, .int .i64 0, .string ⟨#[46, 118, 46]⟩], .bool true]) (by simp [results, Tryd.results38, go_sem]) rfl ⟨_, _, _, rfl, hb _⟩
  · have q := pick_in (by assumption) HL (by decide)
    subst q
    exact bodyPost_ret (v := .tuple #[.agg #[.int .i64 5, .int .i64 0, .string ⟨#[46, 46]⟩], .bool true]) (by simp [results, Tryd.results38, go_sem]) rfl ⟨_, _, _, rfl, hb _⟩
  · have q := pick_in (by assumption) HL (by decide)
    subst q
    exact bodyPost_ret (v := .tuple #[.agg #[.int .i64 7, .int .i64 0, .string ⟨#[46, 46, 46]⟩], .bool true]) (by simp [results, Tryd.results38, go_sem]) rfl ⟨_, _, _, rfl, hb _⟩
  · have q := pick_in (by assumption) HL (by decide)
    subst q
    exact bodyPost_ret (v := .tuple #[.agg #[.int .i64 8, .int .i64 0, .string ⟨#[46]⟩], .bool true]) (by simp [results, Tryd.results38, go_sem]) rfl ⟨_, _, _, rfl, hb _⟩
  · have q := pick_in (by assumption) HL (by decide)
    subst q
    exact bodyPost_ret (v := .tuple #[.agg #[.int .i64 9, .int .i64 0, .string ⟨#[46]⟩], .bool true]) (by simp [results, Tryd.results38, go_sem]) rfl ⟨_, _, _, rfl, hb _⟩
  · have q := pick_in (by assumption) HL (by decide)
    subst q
    exact bodyPost_ret (v := .tuple #[.agg #[.int .i64 12, .int .i64 0, .string ⟨#[46]⟩], .bool true]) (by simp [results, Tryd.results38, go_sem]) rfl ⟨_, _, _, rfl, hb _⟩
  · have q := pick_in (by assumption) HL (by decide)
    subst q
    exact bodyPost_ret (v := .tuple #[.agg #[.int .i64 28, .int .i64 0, .string ⟨#[46]⟩], .bool true]) (by simp [results, Tryd.results38, go_sem]) rfl ⟨_, _, _, rfl, hb _⟩
  · have q := pick_in (by assumption) HL (by decide)
    subst q
    exact bodyPost_ret (v := .tuple #[.agg #[.int .i64 13, .int .i64 0, .string ⟨#[118, 46, 46, 86, 46, 46]⟩], .bool true]) (by simp [results, Tryd.results38, go_sem]) rfl ⟨_, _, _, rfl, hb _⟩
  · have q := pick_in (by assumption) HL (by decide)
    subst q
    exact bodyPost_ret (v := .tuple #[.agg #[.int .i64 15, .int .i64 0, .string ⟨#[46, 46]⟩], .bool true]) (by simp [results, Tryd.results38, go_sem]) rfl ⟨_, _, _, rfl, hb _⟩
  · have q := pick_in (by assumption) HL (by decide)
    subst q
    exact bodyPost_ret (v := .tuple #[.agg #[.int .i64 18, .int .i64 0, .string ⟨#[46, 46, 46]⟩], .bool true]) (by simp [results, Tryd.results38, go_sem]) rfl ⟨_, _, _, rfl, hb _⟩
  · have q := pick_in (by assumption) HL (by decide)
    subst q
    exact bodyPost_ret (v := .tuple #[.agg #[.int .i64 19, .int .i64 0, .string ⟨#[46, 46]⟩], .bool true]) (by simp [results, Tryd.results38, go_sem]) rfl ⟨_, _, _, rfl, hb _⟩
  · have q := pick_in (by assumption) HL (by decide)
    subst q
    exact bodyPost_ret (v := .tuple #[.agg #[.int .i64 20, .int .i64 0, .string ⟨#[46, 46, 46, 46]⟩], .bool true]) (by simp [results, Tryd.results38, go_sem]) rfl ⟨_, _, _, rfl, hb _⟩
  · have q := pick_in (by assumption) HL (by decide)
    subst q
    exact bodyPost_ret (v := .tuple #[.agg #[.int .i64 21, .int .i64 0, .string ⟨#[46, 46, 118, 46, 46, 46, 46]⟩], .bool true]) (by simp [results, Tryd.results38, go_sem]) rfl ⟨_, _, _, rfl, hb _⟩
  · have q := pick_in (by assumption) HL (by decide)
    subst q
    exact bodyPost_ret (v := .tuple #[.agg #[.int .i64 22, .int .i64 0, .string ⟨#[46, 86, 46, 46, 46, 46]⟩], .bool true]) (by simp [results, Tryd.results38, go_sem]) rfl ⟨_, _, _, rfl, hb _⟩
  · have q := pick_in (by assumption) HL (by decide)
    subst q
    exact bodyPost_ret (v := .tuple #[.agg #[.int .i64 23, .int .i64 0, .string ⟨#[46, 46]⟩], .bool true]) (by simp [results, Tryd.results38, go_sem]) rfl ⟨_, _, _, rfl, hb _⟩
  · have q := pick_in (by assumption) HL (by decide)
    subst q
    exact bodyPost_ret (v := .tuple #[.agg #[.int .i64 24, .int .i64 0, .string ⟨#[46, 118, 46, 46, 46]⟩], .bool true]) (by simp [results, Tryd.results38, go_sem]) rfl ⟨_, _, _, rfl, hb _⟩
  · have q := pick_in (by assumption) HL (by decide)
    subst q
    exact bodyPost_ret (v := .tuple #[.agg #[.int .i64 25, .int .i64 0, .string ⟨#[100]⟩], .bool true]) (by simp [results, Tryd.results38, go_sem]) rfl ⟨_, _, _, rfl, hb _⟩
  · have q := pick_in (by assumption) HL (by decide)
    subst q
    exact bodyPost_ret (v := .tuple #[.agg #[.int .i64 26, .int .i64 0, .string ⟨#[100, 110, 42]⟩], .bool true]) (by simp [results, Tryd.results38, go_sem]) rfl ⟨_, _, _, rfl, hb _⟩
  · have q := pick_in (by assumption) HL (by decide)
    subst q
    exact bodyPost_ret (v := .tuple #[.agg #[.int .i64 27, .int .i64 0, .string ⟨#[100, 118, 46, 42, 46]⟩], .bool true]) (by simp [results, Tryd.results38, go_sem]) rfl ⟨_, _, _, rfl, hb _⟩
  go_wp2_with fail
  have q := form_none HL (by assumption) (by assumption) (by assumption) (by assumption) (by assumption) (by assumption) (by assumption) (by assumption) (by assumption) (by assumption) (by assumption) (by assumption) (by assumption) (by assumption) (by assumption) (by assumption) (by assumption) (by assumption) (by assumption) (by assumption) (by assumption) (by assumption) (by assumption) (by assumption) (by assumption) (by assumption) (by assumption) (by assumption) 
  subst q
  exact bodyPost_ret (v := .tuple #[.agg #[.int .i64 0, .int .i64 0, .string ⟨#[]⟩], .bool false]) (by simp [results, Tryd.results38, go_sem]) rfl ⟨_, _, _, rfl, hb _⟩

set_option maxHeartbeats 2000000 in
set_option maxRecDepth 100000 in
theorem refkeyword_any (s : ByteArray) (w : World) :
    Calls Tryd.prog 20 #[.string s] w fun e w' => e = .returned (.bool (keyB s)) ∧ Below w.heap.size w w' := by
  obtain ⟨x1, hx1⟩ : ∃ x, formsL.contains s.data.toList = x := ⟨_, rfl⟩
  obtain ⟨x2, hx2⟩ : ∃ x, aloneL.contains s.data.toList = x := ⟨_, rfl⟩
  have hk : keyB s = (x1 || x2) := by unfold keyB; rw [hx1, hx2]
  rw [hk]
  go_enter Tryd.func20, Tryd.ntmps20
  go_wp2_with (go_at_call 38; refine (form_any s _).mono ?_)
  rintro e w1 ⟨k, n, t, rfl, hb1⟩
  rw [hx1]
  have HB1 := Lib.hid hb1
  clear hb1
  go_wp2_with (go_at_call 39; refine (leaf_any s _).mono ?_)
  rintro e w2 ⟨k2, n2, m2, t2, rfl, hb2⟩
  rw [hx2]
  have HB2 : Hid (Below w.heap.size w w2) := Lib.hid ((HB1.out.alloc HB1.out.size _).trans (hb2.mono (by have := HB1.out.size; simp; omega)))
  clear hb2
  cases x1
  · go_wp2_with fail
    go_ret
    exact ⟨rfl, HB2.out.alloc HB2.out.size _⟩
  · go_wp2_with fail
    go_ret
    exact ⟨rfl, HB2.out.alloc HB2.out.size _⟩

end Go.Proofs.YteldkcpkamgfpaaDoor
