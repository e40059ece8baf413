/- wire.taker and its two closures, wire.number. -/
import Derived.Test.YtoagedaohdkbdaaDoorWireF
namespace Go.Proofs.YtoagedaohdkbdaaDoor
set_option linter.unusedSimpArgs false
set_option linter.unusedVariables false
open Go.RowKit

theorem or64 (a b : Nat) (ha : a < 9223372036854775808) (hb : b < 9223372036854775808) : bits .or .i64 (a : Int) (b : Int) = ((a ||| b : Nat) : Int) := by
  have hx : a ||| b < 2 ^ 63 := Nat.or_lt_two_pow (by omega) (by omega)
  have h1 : (BitVec.ofInt 64 (a : Int)).toNat = a := by
    rw [BitVec.ofInt_natCast, BitVec.toNat_ofNat]; exact Nat.mod_eq_of_lt (by omega)
  have h2 : (BitVec.ofInt 64 (b : Int)).toNat = b := by
    rw [BitVec.ofInt_natCast, BitVec.toNat_ofNat]; exact Nat.mod_eq_of_lt (by omega)
  show IntKind.i64.wrap ((BitVec.ofInt 64 (a : Int) ||| BitVec.ofInt 64 (b : Int)).toNat : Int) = _
  rw [BitVec.toNat_or, h1, h2, IntKind.wrap_i64]
  omega
theorem or_zero (a : Nat) (ha : a < 256) : bits .or .i64 0 (a : Int) = (a : Int) := by
  have h := or64 0 a (by omega) (by omega)
  rw [Nat.zero_or] at h
  exact h
theorem or_high (a b : Nat) (ha : a < 256) (hb : b < 256) : bits .or .i64 (a : Int) ((b : Int) * 256) = ((a + 256 * b : Nat) : Int) := by
  have h := or64 a (b * 256) (by omega) (by omega)
  have e : a ||| b * 256 = a + 256 * b := by
    have h2 := Nat.shiftLeft_add_eq_or_of_lt (b := a) (i := 8) (by omega) b
    rw [Nat.shiftLeft_eq] at h2
    rw [Nat.or_comm, show b * 256 = b * 2 ^ 8 from rfl, ← h2]
    omega
  rw [e] at h
  exact h

theorem len_two {l : List UInt8} (h : l.length = 2) : ∃ a b, l = [a, b] := by
  match l, h with
  | [a, b], _ => exact ⟨a, b, rfl⟩
def numP (l : List UInt8) (j : Nat) : Nat := num (l.take j)
set_option maxHeartbeats 1000000 in
theorem number_any (s : ByteArray) (hs : s.size ≤ 2) (w : World) :
    Calls Tryd.prog 34 #[.string s] w fun e w' => e = .returned (.int .i64 ((num s.data.toList : Nat) : Int)) ∧ w = w' := by
  have hll : s.data.toList.length = s.size := Array.length_toList
  obtain ⟨n, hn⟩ : ∃ n, s.size = n := ⟨_, rfl⟩
  have hcase : n = 0 ∨ n = 1 ∨ n = 2 := by omega
  rcases hcase with rfl | rfl | rfl
  · have hl : s.data.toList = [] := List.eq_nil_of_length_eq_zero (by omega)
    have HL : Hid (((num s.data.toList : Nat) : Int) = 0) := by show _ = _; rw [hl]; rfl
    rw [HL.out]
    have he : (s.size : Int) = 0 := by omega
    clear hll hl HL hs
    go_enter Tryd.func34, Tryd.ntmps34
    go_wp2_with fail
    go_loop [3, 7] (fun n i => n = .int .i64 0 ∧ i = .int .i64 0) (fun _ _ => 0)
    case atStart => exact ⟨rfl, rfl⟩
    case round =>
      obtain ⟨rfl, rfl⟩ := hrel
      go_wp2_with fail
      go_ret
      exact ⟨rfl, rfl⟩
  · have h0 : 0 < s.size := by omega
    obtain ⟨a, ha⟩ : ∃ a, s.data.toList = [a] := List.length_eq_one_iff.1 (by omega)
    have g0 : (s[0]'h0).toNat = a.toNat := by
      have e : s.data.toList[0]'(by omega) = a := by simp [ha]
      rw [← e]; rfl
    have HL : Hid (((num s.data.toList : Nat) : Int) = (a.toNat : Int)) := by show _ = _; rw [ha, num_one]
    rw [HL.out]
    have hx := a.toNat_lt
    generalize a.toNat = x at *
    have i0 : ∀ w : World, (Instr.index 9 (.string s) (.int .i64 0)).run Tryd.prog w = .ok (.int .u8 (x : Int)) w := by
      intro w
      rw [run_index_string w 9 s .i64 0 Tryd.underlying9, dif_pos (by omega), ← g0]
      rfl
    have o0 := or_zero x (by omega)
    have hx9 : (x : Int) ≤ 255 := by omega
    clear hll ha g0 HL hs h0
    go_enter Tryd.func34, Tryd.ntmps34
    go_wp2_with fail
    go_loop [3, 7] (fun n i => (n = .int .i64 0 ∧ i = .int .i64 0) ∨ (n = .int .i64 (x : Int) ∧ i = .int .i64 1)) (fun _ i => 1 - (intOf i).toNat)
    case atStart => exact .inl ⟨rfl, rfl⟩
    case round =>
      rcases hrel with ⟨rfl, rfl⟩ | ⟨rfl, rfl⟩
      · go_wp2_with fail
        go_round
        case rel => exact .inr ⟨rfl, rfl⟩
        case measure => simp [intOf]
      · go_wp2_with fail
        go_ret
        exact ⟨rfl, rfl⟩
  · have h0 : 0 < s.size := by omega
    have h1 : 1 < s.size := by omega
    obtain ⟨a, b, hab⟩ : ∃ a b, s.data.toList = [a, b] := len_two (by omega)
    have g0 : (s[0]'h0).toNat = a.toNat := by
      have e : s.data.toList[0]'(by omega) = a := by simp [hab]
      rw [← e]; rfl
    have g1 : (s[1]'h1).toNat = b.toNat := by
      have e : s.data.toList[1]'(by omega) = b := by simp [hab]
      rw [← e]; rfl
    have HL : Hid (((num s.data.toList : Nat) : Int) = ((a.toNat + 256 * b.toNat : Nat) : Int)) := by show _ = _; rw [hab, num_two]
    rw [HL.out]
    have hx := a.toNat_lt
    have hy := b.toNat_lt
    generalize a.toNat = x at *
    generalize b.toNat = y at *
    have i0 : ∀ w : World, (Instr.index 9 (.string s) (.int .i64 0)).run Tryd.prog w = .ok (.int .u8 (x : Int)) w := by
      intro w
      rw [run_index_string w 9 s .i64 0 Tryd.underlying9, dif_pos (by omega), ← g0]
      rfl
    have i1 : ∀ w : World, (Instr.index 9 (.string s) (.int .i64 1)).run Tryd.prog w = .ok (.int .u8 (y : Int)) w := by
      intro w
      rw [run_index_string w 9 s .i64 1 Tryd.underlying9, dif_pos (by omega), ← g1]
      rfl
    have o0 := or_zero x (by omega)
    have o1 := or_high x y (by omega) (by omega)
    have hx9 : (x : Int) ≤ 255 := by omega
    have hy9 : (y : Int) ≤ 255 := by omega
    obtain ⟨z, hz⟩ : ∃ z : Int, ((x + 256 * y : Nat) : Int) = z := ⟨_, rfl⟩
    rw [hz] at o1 ⊢
    clear hll hab g0 g1 HL hs h0 h1 hz
    go_enter Tryd.func34, Tryd.ntmps34
    go_wp2_with fail
    go_loop [3, 7] (fun n i => (n = .int .i64 0 ∧ i = .int .i64 0) ∨ (n = .int .i64 (x : Int) ∧ i = .int .i64 1) ∨ (n = .int .i64 z ∧ i = .int .i64 2)) (fun _ i => 2 - (intOf i).toNat)
    case atStart => exact .inl ⟨rfl, rfl⟩
    case round =>
      rcases hrel with ⟨rfl, rfl⟩ | ⟨rfl, rfl⟩ | ⟨rfl, rfl⟩
      · go_wp2_with fail
        go_round
        case rel => exact .inr (.inl ⟨rfl, rfl⟩)
        case measure => simp [intOf]
      · go_wp2_with fail
        go_round
        case rel => exact .inr (.inr ⟨rfl, rfl⟩)
        case measure => simp [intOf]
      · go_wp2_with fail
        go_ret
        exact ⟨rfl, rfl⟩

/-! ### the taker -/
/-- what its cells hold: may more be taken, and what is left -/
def Tk (bo bs : Nat) (st : Option (List UInt8)) (w : World) : Prop :=
  bo ≠ bs ∧ ∃ s : ByteArray, Blk w bs 9 #[.string s] ∧ Blk w bo 4 #[.bool st.isSome] ∧ s.size ≤ maxLen ∧ ∀ r, st = some r → s.data.toList = r
theorem Tk.stab {bo bs : Nat} {st : Option (List UInt8)} {w w' : World} {S : Bset} (h : Tk bo bs st w) (hc : Chg S w w') (h1 : ¬ S bo) (h2 : ¬ S bs) : Tk bo bs st w' := by
  obtain ⟨hn, s, a, b, c, d⟩ := h
  exact ⟨hn, s, a.stab h2 hc, b.stab h1 hc, c, d⟩
theorem Tk.lt {bo bs : Nat} {st : Option (List UInt8)} {w : World} (h : Tk bo bs st w) : bo < w.heap.size ∧ bs < w.heap.size := by
  obtain ⟨hn, s, a, b, c, d⟩ := h
  exact ⟨b.lt, a.lt⟩
def takerV (bo bs : Nat) : Value := .func (.func 39) #[] #[.pointer (some ⟨bo, 0, none⟩), .pointer (some ⟨bs, 0, none⟩)]
def leftV (bo bs : Nat) : Value := .func (.func 40) #[] #[.pointer (some ⟨bo, 0, none⟩), .pointer (some ⟨bs, 0, none⟩)]
theorem taker_any (s : ByteArray) (hs : s.size ≤ maxLen) (w : World) :
    Calls Tryd.prog 33 #[.string s] w fun e w' => e = .returned (.tuple #[.func (.func 39) #[] #[.pointer (some ⟨w.heap.size + 1, 0, none⟩), .pointer (some ⟨w.heap.size, 0, none⟩)], .func (.func 40) #[] #[.pointer (some ⟨w.heap.size + 1, 0, none⟩), .pointer (some ⟨w.heap.size, 0, none⟩)]]) ∧
      Tk (w.heap.size + 1) w.heap.size (some s.data.toList) w' ∧ Below w.heap.size w w' ∧ w'.heap.size = w.heap.size + 2 := by
  have h1 := Blk.new w 9 #[.string s]
  have h2 := Blk.new (w.alloc (.cells #[.string s] 9)) 4 #[.bool true]
  rw [World.size_alloc] at h2
  have HF : Hid (Tk (w.heap.size + 1) w.heap.size (some s.data.toList) ((w.alloc (.cells #[.string s] 9)).alloc (.cells #[.bool true] 4)) ∧ Below w.heap.size w ((w.alloc (.cells #[.string s] 9)).alloc (.cells #[.bool true] 4)) ∧ ((w.alloc (.cells #[.string s] 9)).alloc (.cells #[.bool true] 4)).heap.size = w.heap.size + 2) :=
    ⟨⟨by omega, s, h1.alloc _, h2, hs, fun r hr => by simpa using hr⟩, ((Below.refl _ w).alloc (Nat.le_refl _) _).alloc (by simp) _, by simp⟩
  clear h1 h2 hs
  go_enter Tryd.func33, Tryd.ntmps33
  go_wp2_with fail
  go_ret2
  exact ⟨rfl, HF.out⟩

def TakeP (bo bs : Nat) (st : Option (List UInt8)) (n : Nat) (w : World) (e : Ending) (w' : World) : Prop :=
  ∃ t : ByteArray, e = .returned (.string t) ∧ t.data.toList = tkV st n ∧ Tk bo bs (tkS st n) w' ∧ Chg (fun z => z = bo ∨ z = bs) w w'
set_option maxHeartbeats 1000000 in
theorem take_any (bo bs : Nat) (st : Option (List UInt8)) (n : Nat) (hn : n ≤ 100000) (w : World) (h : Tk bo bs st w) :
    Calls Tryd.prog 39 #[.int .i64 (n : Int), .pointer (some ⟨bo, 0, none⟩), .pointer (some ⟨bs, 0, none⟩)] w (TakeP bo bs st n w) := by
  obtain ⟨hne, s, qs, qo, hs, hr⟩ := h
  have hm9 : s.size ≤ 9223372036854775807 := by unfold maxLen at hs; omega
  have co := qo.cell 0
  have cs : w.cell? ⟨bs, 0, none⟩ = some (.string s) := qs.cell 0
  have fo := qo.frozen 0
  have fs := qs.frozen 0
  have hll : s.data.toList.length = s.size := Array.length_toList
  cases st with
  | none =>
    have co : w.cell? ⟨bo, 0, none⟩ = some (.bool false) := co
    have HF : Hid (TakeP bo bs none n w (.returned (.string ⟨#[]⟩)) (w.setCell ⟨bo, 0, none⟩ (.bool false))) :=
      ⟨⟨#[]⟩, rfl, rfl, ⟨hne, s, qs.far (p := ⟨bo, 0, none⟩) (fun e => hne e.symm) _, by have := qo.set_ 0 (.bool false); exact this, hs, fun r h => by cases h⟩, Chg.setCell (S := fun z => z = bo ∨ z = bs) w ⟨bo, 0, none⟩ _ (.inl rfl)⟩
    clear qs qo hs hr hll
    go_enter Tryd.func39, Tryd.ntmps39
    go_wp2_with fail
    go_ret
    exact HF.out
  | some r =>
    have co : w.cell? ⟨bo, 0, none⟩ = some (.bool true) := co
    obtain rfl := hr r rfl
    by_cases hle : n ≤ s.size
    · have hb : decide ((n : Int) ≤ (s.size : Int)) = true := by simp; omega
      have hb2 : decide (n ≤ s.size) = true := by simpa using hle
      have HF : Hid (TakeP bo bs (some s.data.toList) n w (.returned (.string (s.extract 0 n))) ((w.setCell ⟨bo, 0, none⟩ (.bool true)).setCell ⟨bs, 0, none⟩ (.string (s.extract n s.size)))) := by
        refine ⟨s.extract 0 n, rfl, ?_, ⟨hne, s.extract n s.size, ?_, ?_, ?_, ?_⟩, (Chg.setCell (S := fun z => z = bo ∨ z = bs) w ⟨bo, 0, none⟩ _ (.inl rfl)).trans (Chg.setCell (S := fun z => z = bo ∨ z = bs) _ ⟨bs, 0, none⟩ _ (.inr rfl))⟩
        · rw [Lib.extract_data]; simp [tkV, hll, hle]
        · have := (qs.far (p := ⟨bo, 0, none⟩) (fun e => hne e.symm) (.bool true)).set_ 0 (.string (s.extract n s.size))
          exact this
        · have := (qo.set_ 0 (.bool true)).far (p := ⟨bs, 0, none⟩) (fun e => hne e) (.string (s.extract n s.size))
          unfold tkS
          simp only [hll, if_pos hle]
          exact this
        · rw [ByteArray.size_extract]; omega
        · intro r h
          unfold tkS at h
          simp only [hll, if_pos hle, Option.some.injEq] at h
          rw [Lib.extract_data, List.take_of_length_le (by simp)]
          exact h
      have hne2 : (⟨bs, 0, none⟩ : Addr) ≠ ⟨bo, 0, none⟩ := by intro e; injection e with e; exact hne e.symm
      have hc2 : (w.setCell ⟨bo, 0, none⟩ (.bool true)).cell? ⟨bs, 0, none⟩ = some (.string s) := by rw [World.cell?_setCell_other _ _ _ _ hne2.symm]; exact cs
      have hc3 : (w.setCell ⟨bo, 0, none⟩ (.bool true)).cell? ⟨bo, 0, none⟩ = some (.bool true) := World.cell?_setCell_same _ _ _ co
      have hc4 : (w.setCell ⟨bo, 0, none⟩ (.bool true)).frozen? ⟨bs, 0, none⟩ = false := (qs.far (p := ⟨bo, 0, none⟩) (fun e => hne e.symm) (.bool true)).frozen 0
      clear qs qo hs hr hll
      go_enter Tryd.func39, Tryd.ntmps39
      go_wp2_with fail
      go_ret
      exact HF.out
    · have hb : decide ((n : Int) ≤ (s.size : Int)) = false := by simp; omega
      have hb2 : decide (n ≤ s.size) = false := by simpa using hle
      have HF : Hid (TakeP bo bs (some s.data.toList) n w (.returned (.string ⟨#[]⟩)) (w.setCell ⟨bo, 0, none⟩ (.bool false))) := by
        have e1 : tkV (some s.data.toList) n = [] := by simp [tkV, hle]
        have e2 : tkS (some s.data.toList) n = none := by simp [tkS, hle]
        unfold Hid TakeP
        rw [e1, e2]
        exact ⟨⟨#[]⟩, rfl, rfl, ⟨hne, s, qs.far (p := ⟨bo, 0, none⟩) (fun e => hne e.symm) _, by have := qo.set_ 0 (.bool false); exact this, hs, fun r h => by cases h⟩, Chg.setCell (S := fun z => z = bo ∨ z = bs) w ⟨bo, 0, none⟩ _ (.inl rfl)⟩
      clear qs qo hs hr hll
      go_enter Tryd.func39, Tryd.ntmps39
      go_wp2_with fail
      go_ret
      exact HF.out

def leftI (st : Option (List UInt8)) : Int := match st with
  | some r => (r.length : Int)
  | none => -1
theorem left_any (bo bs : Nat) (st : Option (List UInt8)) (w : World) (h : Tk bo bs st w) :
    Calls Tryd.prog 40 #[.pointer (some ⟨bo, 0, none⟩), .pointer (some ⟨bs, 0, none⟩)] w fun e w' => e = .returned (.int .i64 (leftI st)) ∧ w = w' := by
  obtain ⟨hne, s, qs, qo, hs, hr⟩ := h
  have hm9 : s.size ≤ 9223372036854775807 := by unfold maxLen at hs; omega
  have co := qo.cell 0
  have cs : w.cell? ⟨bs, 0, none⟩ = some (.string s) := qs.cell 0
  have hll : s.data.toList.length = s.size := Array.length_toList
  cases st with
  | none =>
    have co : w.cell? ⟨bo, 0, none⟩ = some (.bool false) := co
    clear qs qo hs hr hll
    go_enter Tryd.func40, Tryd.ntmps40
    go_wp2_with fail
    go_ret
    exact ⟨rfl, rfl⟩
  | some r =>
    have co : w.cell? ⟨bo, 0, none⟩ = some (.bool true) := co
    obtain rfl := hr r rfl
    have HE : Hid (leftI (some s.data.toList) = (s.size : Int)) := by show ((s.data.toList.length : Nat) : Int) = _; rw [hll]
    rw [HE.out]
    clear qs qo hs hr hll HE
    go_enter Tryd.func40, Tryd.ntmps40
    go_wp2_with fail
    go_ret
    exact ⟨rfl, rfl⟩

end Go.Proofs.YtoagedaohdkbdaaDoor
