/- The table of fields of chapter 5 as it lies, where it is as its initialiser lays it; the document's hasN, hasM, hasS, Two; the taker of bytes and the number of a text. -/
import Derived.Test.YtoagedaohdkbdaaDoorWireTk
import Derived.Test.YtoagedaohdkbdaaDoorNa
import Derived.Test.YtoagedaohdkbdaaDoorCg
import Derived.Laws.BytesArg
import Derived.Laws.Concat
import Derived.Lib.Strings
namespace Go.Proofs.YtoagedaohdkbdaaDoor
set_option linter.unusedSimpArgs false
set_option linter.unusedVariables false
open Go.RowKit Go.ChangeShapes Go.WideShapes Go.Deep

theorem shp_big {k : Nat} (h : 30 ≤ k) : shp k = ([], false, false, false) := by
  unfold shp
  split <;> first | rfl | omega
def maskB (k : Nat) : Int := (if fN (k : Int) then 1 else 0) + (if fM (k : Int) then 2 else 0) + (if fS (k : Int) then 4 else 0)
/-- the table lies as it is laid -/
def FieldsAt (w : World) : Prop := ∀ k, k < 256 → w.cell? ⟨0, k, none⟩ = some (.int .u8 (maskB k))
theorem FieldsAt.lt {w : World} (h : FieldsAt w) : 0 < w.heap.size := World.block_lt_of_cell? w _ (h 0 (by omega))
theorem FieldsAt.below {w w' : World} (h : FieldsAt w) (hb : Below w.heap.size w w') : FieldsAt w' := fun k hk => (hb.cell (p := ⟨0, k, none⟩) h.lt).trans (h k hk)
theorem FieldsAt.alloc {w : World} (h : FieldsAt w) (o : Obj) : FieldsAt (w.alloc o) := h.below ((Below.refl _ _).alloc (Nat.le_refl _) o)

theorem laid_eq5 : (Rows.laid_cornice_wire_fields : DataW Unit) = .agg ((List.range 256).map fun k => .lit (.int .u8 (maskB k))) := by kernel_rfl
theorem gFields : Tryd.prog.globalNamed "cornice/wire.fields" = some 0 := by kernel_rfl
theorem tFields : (Tryd.prog.globals[0]?).map (·.type) = some 52 := by kernel_rfl
theorem cByte : Tryd.prog.cellsOf 5 = 1 := by kernel_rfl
theorem fieldsAt_of_laid {w : World} (h : laidMetH Tryd.prog laidList w) : FieldsAt w := by
  unfold laidList at h
  rw [MakeChecks.laidMetH_plain _ _ _ (by kernel_rfl)] at h
  obtain ⟨ps, ⟨_, _, _, _, _, _, _, _, _, _, ⟨g0, t0, cs0, f0, p0, q0, hg0, ht0, hv0, hd0, _, _⟩, _⟩, _, _⟩ := h
  obtain rfl := Option.some.inj (gFields.symm.trans hg0)
  obtain rfl := Option.some.inj (tFields.symm.trans ht0)
  rw [laid_eq5] at hd0
  obtain ⟨xs, m, rfl, hx, hlen, hn, hel⟩ := DataW.trod_array Tryd.underlying52 hd0
  have hxs : xs.map (·.1) = (List.range 256).map fun k => (.lit (.int .u8 (maskB k)) : DataW Unit) := by
    simp only [Prod.mk.injEq, DataW.agg.injEq] at hx
    exact hx.1.symm
  rw [cByte] at hel
  intro k hk
  obtain ⟨y, hy, hy2⟩ : ∃ y, xs[k]? = some y ∧ y.1 = .lit (.int .u8 (maskB k)) := by
    have h1 : (xs.map (·.1))[k]? = some (.lit (.int .u8 (maskB k))) := by rw [hxs]; simp [hk]
    rw [List.getElem?_map] at h1
    obtain ⟨y, hy, hy2⟩ := Option.map_eq_some_iff.1 h1
    exact ⟨y, hy, hy2⟩
  have hek := hel k hk
  rw [hy, Nat.mul_one] at hek
  obtain ⟨n, e1, e2, _⟩ := DataW.trod_int Tryd.underlying5 hek
  rw [e2] at hy2
  simp only [DataW.lit.injEq, Lit.int.injEq, true_and] at hy2
  have hc := World.var?_cell hg0 hv0 k
  rw [hc]
  have h2 : (List.take 1 (List.drop k cs0.toList))[0]? = some (.int .u8 n) := by rw [e1]; rfl
  rw [List.getElem?_take, if_pos (by omega), List.getElem?_drop, Nat.add_zero] at h2
  rw [← hy2]
  simpa using h2

/-! ### the document's kinds that have a field -/
def hasB (k : Int) (l : List Int) : Bool := l.any (· == k)
set_option maxHeartbeats 1000000 in
theorem rhas_any (k : Int) (l : List Int) (v : Value) (w : World) (hv : ReadI w v l) :
    Calls Tryd.prog 38 #[.int .i64 k, v] w fun e w' => e = .returned (.bool (hasB k l)) ∧ w = w' := by
  obtain ⟨hm, ⟨h0, a, cap, rfl⟩ | ⟨b, off, cap, rfl, hb, hc⟩⟩ := hv.cases
  · subst h0
    go_enter Tryd.func38, Tryd.ntmps38
    go_wp2_with fail
    go_loop [5] (fun i => i = .int .i64 0) (fun _ => 0)
    case atStart => exact rfl
    case round =>
      obtain rfl := hrel
      go_wp2_with fail
      go_ret
      exact ⟨rfl, rfl⟩
  have HC := Lib.hid hc; clear hc
  have hm9 : l.length ≤ 9223372036854775807 := by unfold maxLen at hm; omega
  clear hm hv
  go_enter Tryd.func38, Tryd.ntmps38
  go_wp2_with fail
  go_loop [5] (fun i => ∃ j : Nat, j ≤ l.length ∧ i = .int .i64 (j : Int) ∧ (l.take j).any (· == k) = false) (fun i => l.length - (intOf i).toNat)
  case atStart => exact ⟨0, Nat.zero_le _, rfl, rfl⟩
  case round =>
    obtain ⟨j, hj, rfl, hno⟩ := hrel
    have HNO := Lib.hid hno
    clear hno
    by_cases hlt : j < l.length
    · have g0 := HC.out j hlt
      have hat : l.getD j 0 = l[j] := by simp [List.getD_eq_getElem?_getD, List.getElem?_eq_getElem hlt]
      obtain ⟨x, hx⟩ : ∃ x, l.getD j 0 = x := ⟨_, rfl⟩
      rw [hx] at g0
      have HX : Hid (l[j] = x) := by show _ = _; rw [← hat, hx]
      clear hat hx
      by_cases he : x = k
      · subst he
        have hfin : Hid (hasB x l = true) := by
          show hasB x l = true
          unfold hasB
          rw [List.any_eq_true]
          exact ⟨l[j], List.getElem_mem hlt, by rw [HX.out]; simp⟩
        go_wp2_with fail
        go_ret
        exact ⟨by rw [hfin.out]; rfl, rfl⟩
      · have hb1 : (x == k) = false := by simpa using he
        have HN : Hid ((l.take (j + 1)).any (· == k) = false) := by
          show List.any _ _ = false
          rw [List.take_succ_eq_append_getElem hlt, List.any_append, HNO.out, HX.out]
          simp [he]
        clear he
        go_wp2_with fail
        go_round
        case rel => exact ⟨j + 1, by omega, by go_num, HN.out⟩
        case measure => simp [intOf]; omega
    · obtain rfl : j = l.length := by omega
      have hfin : Hid (hasB k l = false) := by have := HNO.out; rw [List.take_of_length_le (Nat.le_refl _)] at this; exact this
      clear HNO
      go_wp2_with fail
      go_ret
      exact ⟨by rw [hfin.out]; rfl, rfl⟩

theorem hasN_fN {k : Int} (h : 0 ≤ k) : hasB k [0, 2, 3, 6, 26] = fN k := by
  obtain ⟨n, rfl⟩ := Int.eq_ofNat_of_zero_le h
  unfold fN
  rw [Int.toNat_natCast]
  by_cases hn : n < 30
  · have e := shp_kinds ⟨n, hn⟩
    simp only at e
    rw [e.1, Bool.eq_iff_iff]
    simp [hasB]
    omega
  · rw [shp_big (by omega), Bool.eq_false_iff]
    simp [hasB]
    omega
theorem hasS_fS {k : Int} (h : 0 ≤ k) : hasB k [1, 25, 26, 27] = fS k := by
  obtain ⟨n, rfl⟩ := Int.eq_ofNat_of_zero_le h
  unfold fS
  rw [Int.toNat_natCast]
  by_cases hn : n < 30
  · have e := shp_kinds ⟨n, hn⟩
    simp only at e
    rw [e.2.2, Bool.eq_iff_iff]
    simp [hasB]
    omega
  · rw [shp_big (by omega), Bool.eq_false_iff]
    simp [hasB]
    omega
theorem hasM_fM {k : Int} (h : 0 ≤ k) : fM k = decide (k = 26 ∨ k = 27) := by
  obtain ⟨n, rfl⟩ := Int.eq_ofNat_of_zero_le h
  unfold fM
  rw [Int.toNat_natCast]
  by_cases hn : n < 30
  · have e := shp_kinds ⟨n, hn⟩
    simp only at e
    rw [e.2.1, Bool.eq_iff_iff]
    simp
    omega
  · rw [shp_big (by omega), eq_comm, Bool.eq_false_iff]
    simp
    omega
theorem rhasN_any (k : Int) (h : 0 ≤ k) (w : World) :
    Calls Tryd.prog 30 #[.int .i64 k] w fun e w' => e = .returned (.bool (fN k)) ∧ Below w.heap.size w w' := by
  have HE := Lib.hid (hasN_fN h)
  have HR := Lib.hid (rhas_any k [0, 2, 3, 6, 26] _ _ (ReadI.lit w 3 [0, 2, 3, 6, 26] (by decide)))
  clear h
  go_enter Tryd.func30, Tryd.ntmps30
  go_wp2_with fail
  refine HR.out.mono ?_
  rintro e w' ⟨rfl, rfl⟩
  rw [HE.out]
  go_wp2_with fail
  go_ret
  exact ⟨rfl, (Below.refl _ _).alloc (Nat.le_refl _) _⟩
theorem rhasS_any (k : Int) (h : 0 ≤ k) (w : World) :
    Calls Tryd.prog 32 #[.int .i64 k] w fun e w' => e = .returned (.bool (fS k)) ∧ Below w.heap.size w w' := by
  have HE := Lib.hid (hasS_fS h)
  have HR := Lib.hid (rhas_any k [1, 25, 26, 27] _ _ (ReadI.lit w 3 [1, 25, 26, 27] (by decide)))
  clear h
  go_enter Tryd.func32, Tryd.ntmps32
  go_wp2_with fail
  refine HR.out.mono ?_
  rintro e w' ⟨rfl, rfl⟩
  rw [HE.out]
  go_wp2_with fail
  go_ret
  exact ⟨rfl, (Below.refl _ _).alloc (Nat.le_refl _) _⟩
theorem rhasM_any (k : Int) (h : 0 ≤ k) (w : World) :
    Calls Tryd.prog 31 #[.int .i64 k] w fun e w' => e = .returned (.bool (fM k)) ∧ w = w' := by
  rw [hasM_fM h]
  clear h
  by_cases h1 : k = 26
  · subst h1
    go_enter Tryd.func31, Tryd.ntmps31
    go_wp2_with fail
    go_ret
    exact ⟨rfl, rfl⟩
  · have b1 : (k == 26) = false := by simpa using h1
    by_cases h2 : k = 27
    · subst h2
      go_enter Tryd.func31, Tryd.ntmps31
      go_wp2_with fail
      go_ret
      exact ⟨rfl, rfl⟩
    · have b2 : (k == 27) = false := by simpa using h2
      have e : decide (k = 26 ∨ k = 27) = false := by simp [h1, h2]
      rw [e]
      clear h1 h2 e
      go_enter Tryd.func31, Tryd.ntmps31
      go_wp2_with fail
      go_ret
      exact ⟨rfl, rfl⟩

/-! ### bytes as a text -/
/-- the text of one byte, of two -/
def tx1 (a : Int) : ByteArray := ⟨#[by8 a]⟩
def tx2 (a b : Int) : ByteArray := ⟨#[by8 a, by8 b]⟩
theorem tx1_list (a : Int) : (tx1 a).data.toList = [by8 a] := rfl
theorem tx1_size (a : Int) : (tx1 a).size = 1 := rfl
theorem tx2_list (a b : Int) : (tx2 a b).data.toList = [by8 a, by8 b] := rfl
theorem tx2_size (a b : Int) : (tx2 a b).size = 2 := rfl
theorem conv1 (w : World) (a : Int) : (convert 45 9 (.slice (some ⟨w.heap.size, 0, none⟩) 1 1)).run Tryd.prog (w.alloc (.cells #[.int .u8 a] 5)) = .ok (.string (tx1 a)) (w.alloc (.cells #[.int .u8 a] 5)) :=
  run_convert_bytes_arg (P := Tryd.prog) _ 45 5 Tryd.underlying45 Tryd.underlying5 w.heap.size 0 1 1 [a] rfl (fun i hi => by
    obtain rfl : i = 0 := by omega
    rw [cell_of_row _ _ _ #[.int .u8 a] 5 (0, 0) (heap_alloc_new w _)]
    rfl) 9 Tryd.underlying9
theorem conv2 (w : World) (a b : Int) : (convert 45 9 (.slice (some ⟨w.heap.size, 0, none⟩) 2 2)).run Tryd.prog (w.alloc (.cells #[.int .u8 a, .int .u8 b] 5)) = .ok (.string (tx2 a b)) (w.alloc (.cells #[.int .u8 a, .int .u8 b] 5)) :=
  run_convert_bytes_arg (P := Tryd.prog) _ 45 5 Tryd.underlying45 Tryd.underlying5 w.heap.size 0 2 2 [a, b] rfl (fun i hi => by
    rw [cell_of_row _ _ _ #[.int .u8 a, .int .u8 b] 5 (0, 0) (heap_alloc_new w _)]
    have : i = 0 ∨ i = 1 := by omega
    rcases this with rfl | rfl <;> rfl) 9 Tryd.underlying9

def loB (n : Nat) : Int := ((n % 256 : Nat) : Int)
def hiB (n : Nat) : Int := ((n / 256 : Nat) : Int)
theorem rTwo_any (n : Nat) (hn : n ≤ 65535) (w : World) :
    Calls Tryd.prog 29 #[.int .i64 (n : Int)] w fun e w' => e = .returned (.string (tx2 (loB n) (hiB n))) ∧ Below w.heap.size w w' := by
  have hc := conv2 w (loB n) (hiB n)
  have h1 : ((n : Int) % 256) = loB n := by unfold loB; omega
  have h2 : ((n : Int) / 256) = hiB n := by unfold hiB; omega
  have l0 : 0 ≤ loB n := by unfold loB; omega
  have l1 : loB n ≤ 255 := by unfold loB; omega
  have u0 : 0 ≤ hiB n := by unfold hiB; omega
  have u1 : hiB n ≤ 255 := by unfold hiB; omega
  generalize loB n = a at *
  generalize hiB n = b at *
  go_enter Tryd.func29, Tryd.ntmps29
  go_wp2_with fail
  go_ret
  exact ⟨rfl, (Below.refl _ _).alloc (Nat.le_refl _) _⟩

end Go.Proofs.YtoagedaohdkbdaaDoor
