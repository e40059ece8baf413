/- A part of the proof that the abstract interpreter is sound, and of the two goroutines of the lexer. -/
import Derived.Test.YticjebnbcnphkaaGreatDoorZLiftC
import Derived.Test.YticjebnbcnphkaaGreatDoorProg
import Derived.KernelRfl

set_option linter.unusedSimpArgs false
set_option linter.unusedVariables false
set_option linter.unusedSectionVars false

namespace Go.Lift
open Go.Proofs
variable {P : Program}
theorem to_xLoadBytes : ∀ (n : Nat) (a : Addr) (acc : ByteArray), To P Any (Extern.Bytes.loadBytes a n acc)
  | 0, a, acc => trivial
  | n + 1, a, acc => by
    unfold Extern.Bytes.loadBytes
    refine To.seq (to_load _ _) fun v => ?_
    split
    · exact to_xLoadBytes n _ _
    · exact trivial
@[simp] theorem to_xLoadBytes' (n : Nat) (a : Addr) (acc : ByteArray) : To P Any (Extern.Bytes.loadBytes a n acc) := to_xLoadBytes n a acc
@[simp] theorem to_xBytesOf (v : Value) : To P Any (Extern.Bytes.bytesOf v) := by
  unfold Extern.Bytes.bytesOf
  repeat' (first | exact trivial | assumption | (simp; done) | with_reducible refine To.seq ?_ (fun _ => ?_) | with_reducible refine To.forInL (fun _ _ => ?_) _ | with_reducible refine To.forInA (fun _ _ => ?_) _ | with_reducible refine To.forInR (fun _ _ => ?_) _ | with_reducible refine To.foldl (fun _ _ => ?_) _ _ | with_reducible refine To.mapA (fun _ => ?_) _ | split | with_reducible intro _ | dsimp only | (refine To.seq ?_ (fun _ => ?_)))
@[simp] theorem to_xAsByte (v : Value) : To P Any (Extern.Bytes.asByte v) := by
  unfold Extern.Bytes.asByte
  repeat' (first | exact trivial | assumption | (simp; done) | with_reducible refine To.seq ?_ (fun _ => ?_) | with_reducible refine To.forInL (fun _ _ => ?_) _ | with_reducible refine To.forInA (fun _ _ => ?_) _ | with_reducible refine To.forInR (fun _ _ => ?_) _ | with_reducible refine To.foldl (fun _ _ => ?_) _ _ | with_reducible refine To.mapA (fun _ => ?_) _ | split | with_reducible intro _ | dsimp only | (refine To.seq ?_ (fun _ => ?_)))
@[simp] theorem to_xCount (args : Array Value) : To P Any (Extern.BytealgCount.count args) := by
  unfold Extern.BytealgCount.count
  obtain ⟨l, rfl⟩ : ∃ l : List Value, args = l.toArray := ⟨args.toList, by simp⟩
  rcases l with _ | ⟨a, _ | ⟨b, _ | ⟨c, l⟩⟩⟩
  all_goals try (simp; done)
  all_goals repeat' (first | exact trivial | assumption | (simp; done) | with_reducible refine To.seq ?_ (fun _ => ?_) | with_reducible refine To.forInL (fun _ _ => ?_) _ | with_reducible refine To.forInA (fun _ _ => ?_) _ | with_reducible refine To.forInR (fun _ _ => ?_) _ | with_reducible refine To.foldl (fun _ _ => ?_) _ _ | with_reducible refine To.mapA (fun _ => ?_) _ | split | with_reducible intro _ | dsimp only | (refine To.seq ?_ (fun _ => ?_)))
@[simp] theorem to_xMaxLen  : To P Any (Extern.BytealgIndex.maxLen) := by
  unfold Extern.BytealgIndex.maxLen
  repeat' (first | exact trivial | assumption | (simp; done) | with_reducible refine To.seq ?_ (fun _ => ?_) | with_reducible refine To.forInL (fun _ _ => ?_) _ | with_reducible refine To.forInA (fun _ _ => ?_) _ | with_reducible refine To.forInR (fun _ _ => ?_) _ | with_reducible refine To.foldl (fun _ _ => ?_) _ _ | with_reducible refine To.mapA (fun _ => ?_) _ | split | with_reducible intro _ | dsimp only | (refine To.seq ?_ (fun _ => ?_)))
@[simp] theorem to_xIndex (args : Array Value) : To P Any (Extern.BytealgIndex.index args) := by
  unfold Extern.BytealgIndex.index
  obtain ⟨l, rfl⟩ : ∃ l : List Value, args = l.toArray := ⟨args.toList, by simp⟩
  rcases l with _ | ⟨a, _ | ⟨b, _ | ⟨c, l⟩⟩⟩
  all_goals try (simp; done)
  all_goals repeat' (first | exact trivial | assumption | (simp; done) | with_reducible refine To.seq ?_ (fun _ => ?_) | with_reducible refine To.forInL (fun _ _ => ?_) _ | with_reducible refine To.forInA (fun _ _ => ?_) _ | with_reducible refine To.forInR (fun _ _ => ?_) _ | with_reducible refine To.foldl (fun _ _ => ?_) _ _ | with_reducible refine To.mapA (fun _ => ?_) _ | split | with_reducible intro _ | dsimp only | (refine To.seq ?_ (fun _ => ?_)))
@[simp] theorem to_xSame (args : Array Value) : To P Any (Extern.AbiNoEscape.same args) := by
  unfold Extern.AbiNoEscape.same
  obtain ⟨l, rfl⟩ : ∃ l : List Value, args = l.toArray := ⟨args.toList, by simp⟩
  rcases l with _ | ⟨a, _ | ⟨b, _ | ⟨c, l⟩⟩⟩
  all_goals try (simp; done)
  all_goals repeat' (first | exact trivial | assumption | (simp; done) | with_reducible refine To.seq ?_ (fun _ => ?_) | with_reducible refine To.forInL (fun _ _ => ?_) _ | with_reducible refine To.forInA (fun _ _ => ?_) _ | with_reducible refine To.forInR (fun _ _ => ?_) _ | with_reducible refine To.foldl (fun _ _ => ?_) _ _ | with_reducible refine To.mapA (fun _ => ?_) _ | split | with_reducible intro _ | dsimp only | (refine To.seq ?_ (fun _ => ?_)))
@[simp] theorem to_xMake (p r : Array TypeId) (args : Array Value) : To P Any (Extern.BytealgMakeNoZero.makeNoZero p r args) := by
  unfold Extern.BytealgMakeNoZero.makeNoZero
  obtain ⟨l, rfl⟩ : ∃ l : List Value, args = l.toArray := ⟨args.toList, by simp⟩
  rcases l with _ | ⟨a, _ | ⟨b, _ | ⟨c, l⟩⟩⟩
  all_goals (try cases a)
  all_goals try (rename_i k n; cases k)
  all_goals try (simp; done)
  all_goals repeat' (first | exact trivial | assumption | (simp; done) | with_reducible refine To.seq ?_ (fun _ => ?_) | with_reducible refine To.forInL (fun _ _ => ?_) _ | with_reducible refine To.forInA (fun _ _ => ?_) _ | with_reducible refine To.forInR (fun _ _ => ?_) _ | with_reducible refine To.foldl (fun _ _ => ?_) _ _ | with_reducible refine To.mapA (fun _ => ?_) _ | split | with_reducible intro _ | dsimp only | (refine To.seq ?_ (fun _ => ?_)))
@[simp] theorem to_xIndexByte (args : Array Value) : To P Any (Extern.BytealgIndexByte.indexByte args) := by
  unfold Extern.BytealgIndexByte.indexByte
  obtain ⟨l, rfl⟩ : ∃ l : List Value, args = l.toArray := ⟨args.toList, by simp⟩
  rcases l with _ | ⟨a, _ | ⟨b, _ | ⟨c, l⟩⟩⟩
  all_goals try (simp; done)
  all_goals repeat' (first | exact trivial | assumption | (simp; done) | with_reducible refine To.seq ?_ (fun _ => ?_) | with_reducible refine To.forInL (fun _ _ => ?_) _ | with_reducible refine To.forInA (fun _ _ => ?_) _ | with_reducible refine To.forInR (fun _ _ => ?_) _ | with_reducible refine To.foldl (fun _ _ => ?_) _ _ | with_reducible refine To.mapA (fun _ => ?_) _ | split | with_reducible intro _ | dsimp only | (refine To.seq ?_ (fun _ => ?_)))
@[simp] theorem to_xOver (p r : Array TypeId) (args : Array Value) : To P Any (Extern.SlicesOverlaps.overlaps p r args) := by
  unfold Extern.SlicesOverlaps.overlaps
  obtain ⟨l, rfl⟩ : ∃ l : List Value, args = l.toArray := ⟨args.toList, by simp⟩
  rcases l with _ | ⟨a, _ | ⟨b, _ | ⟨c, l⟩⟩⟩
  all_goals (try cases a)
  all_goals (try cases b)
  all_goals try (simp; done)
  all_goals repeat' (first | exact trivial | assumption | (simp; done) | with_reducible refine To.seq ?_ (fun _ => ?_) | with_reducible refine To.forInL (fun _ _ => ?_) _ | with_reducible refine To.forInA (fun _ _ => ?_) _ | with_reducible refine To.forInR (fun _ _ => ?_) _ | with_reducible refine To.foldl (fun _ _ => ?_) _ _ | with_reducible refine To.mapA (fun _ => ?_) _ | split | with_reducible intro _ | dsimp only | (refine To.seq ?_ (fun _ => ?_)))
@[simp] theorem to_xText (s : String) : To P Any (Extern.RuntimeError.text s) := trivial
@[simp] theorem to_xBounds (args : Array Value) : To P Any (Extern.RuntimeError.boundsError args) := by
  unfold Extern.RuntimeError.boundsError
  obtain ⟨l, rfl⟩ : ∃ l : List Value, args = l.toArray := ⟨args.toList, by simp⟩
  rcases l with _ | ⟨a, _ | ⟨b, l⟩⟩
  · exact trivial
  · cases a <;> try exact trivial
    rename_i cells
    obtain ⟨l, rfl⟩ : ∃ l : List Value, cells = l.toArray := ⟨cells.toList, by simp⟩
    rcases l with _ | ⟨x, _ | ⟨y, _ | ⟨z, _ | ⟨u, _ | ⟨t, l⟩⟩⟩⟩⟩ <;> try exact trivial
    cases x <;> try exact trivial
    cases y <;> try exact trivial
    cases z <;> try exact trivial
    cases u <;> try exact trivial
    rename_i k1 x k2 y signed k3 code
    show To P Any (match (if signed && decide (x < 0) then Extern.RuntimeError.boundsNegErrorFmts else Extern.RuntimeError.boundsErrorFmts)[code.toNat]? with
      | some fmt => Extern.RuntimeError.text ("runtime error: " ++ (fmt.replace "%x" (toString (if signed then x else IntKind.u64.wrap x))).replace "%y" (toString y))
      | none => stuck "boundsError: no such code" : Sem Value)
    split
    · exact trivial
    · exact trivial
  · exact trivial
@[simp] theorem to_xDescribed (v : Value) : To P Any (Extern.RuntimeError.described v) := by
  unfold Extern.RuntimeError.described
  repeat' (first | exact trivial | assumption | (simp; done) | with_reducible refine To.seq ?_ (fun _ => ?_) | with_reducible refine To.forInL (fun _ _ => ?_) _ | with_reducible refine To.forInA (fun _ _ => ?_) _ | with_reducible refine To.forInR (fun _ _ => ?_) _ | with_reducible refine To.foldl (fun _ _ => ?_) _ _ | with_reducible refine To.mapA (fun _ => ?_) _ | split | with_reducible intro _ | dsimp only | (refine To.seq ?_ (fun _ => ?_)))
@[simp] theorem to_xPkg (i : TypeInfo) : To P Any (Extern.RuntimeError.pkgpathOf i) := by
  unfold Extern.RuntimeError.pkgpathOf
  repeat' (first | exact trivial | assumption | (simp; done) | with_reducible refine To.seq ?_ (fun _ => ?_) | with_reducible refine To.forInL (fun _ _ => ?_) _ | with_reducible refine To.forInA (fun _ _ => ?_) _ | with_reducible refine To.forInR (fun _ _ => ?_) _ | with_reducible refine To.foldl (fun _ _ => ?_) _ _ | with_reducible refine To.mapA (fun _ => ?_) _ | split | with_reducible intro _ | dsimp only | (refine To.seq ?_ (fun _ => ?_)))
@[simp] theorem to_xAssert (args : Array Value) : To P Any (Extern.RuntimeError.typeAssertionError args) := by
  unfold Extern.RuntimeError.typeAssertionError
  refine To.seq (to_asAddr _) fun a => ?_
  refine To.seq (to_load _ _) fun v1 => ?_
  refine To.seq (to_xDescribed _) fun d1 => ?_
  refine To.seq (to_load _ _) fun v2 => ?_
  refine To.seq (to_xDescribed _) fun concrete => ?_
  refine To.seq (to_load _ _) fun v3 => ?_
  refine To.seq (to_xDescribed _) fun d3 => ?_
  cases d3 with
  | none => exact to_runtimePanic _
  | some asserted =>
    refine To.seq (to_load _ _) fun v4 => ?_
    refine To.seq (to_asString _) fun missing => ?_
    cases concrete with
    | none => exact trivial
    | some concrete =>
      dsimp only
      split
      · exact trivial
      · split
        · exact trivial
        · refine To.seq (to_xPkg _) fun x => ?_
          refine To.seq (to_xPkg _) fun y => ?_
          cases x <;> cases y <;> exact trivial
@[simp] theorem to_xUnhash (args : Array Value) : To P Any (Extern.RuntimeError.unhashableTypeError args) := by
  unfold Extern.RuntimeError.unhashableTypeError
  obtain ⟨l, rfl⟩ : ∃ l : List Value, args = l.toArray := ⟨args.toList, by simp⟩
  rcases l with _ | ⟨a, _ | ⟨b, l⟩⟩
  · exact trivial
  · cases a <;> try exact trivial
    rename_i cells
    obtain ⟨l, rfl⟩ : ∃ l : List Value, cells = l.toArray := ⟨cells.toList, by simp⟩
    rcases l with _ | ⟨x, _ | ⟨y, l⟩⟩ <;> try exact trivial
    refine To.seq (to_xDescribed _) fun t => ?_
    split
    · exact trivial
    · exact to_runtimePanic _
  · exact trivial
@[simp] theorem to_xNothing (args : Array Value) : To P Any (Extern.RuntimeError.nothing args) := trivial

theorem find_row {fn : Func} {n : String} {e : Array Value → Sem Value} (hn : fn.name = n) (hg : Extern.allGenericRows.lookup n = none) (ht : Extern.allTypedRows.lookup n = none) (hr : Extern.allRows.lookup n = some e) : Extern.find fn = some e := by
  unfold Extern.find
  simp only [hn, hg, ht, hr]
  rfl
theorem find_typed {fn : Func} {n : String} {e : Array TypeId → Array TypeId → Array Value → Sem Value} (hn : fn.name = n) (hg : Extern.allGenericRows.lookup n = none) (ht : Extern.allTypedRows.lookup n = some e) : Extern.find fn = some (e fn.params fn.resultTypes) := by
  unfold Extern.find
  simp only [hn, hg, ht]
  rfl
theorem find_origin {fn : Func} {n m : String} {e : Array TypeId → Array TypeId → Array Value → Sem Value} (hn : fn.name = n) (hg : Extern.allGenericRows.lookup n = none) (ht : Extern.allTypedRows.lookup n = none) (hr : Extern.allRows.lookup n = none) (hm : fn.origin = m) (hg2 : Extern.allGenericRows.lookup m = none) (ht2 : Extern.allTypedRows.lookup m = some e) : Extern.find fn = some (e fn.params fn.resultTypes) := by
  unfold Extern.find
  simp only [hn, hg, ht, hr, hm, hg2, ht2]
  rfl

def rowNames : List String := ["internal/bytealg.CountString", "internal/bytealg.IndexString", "internal/abi.NoEscape", "internal/bytealg.IndexByteString", "(runtime.boundsError).Error", "(runtime.boundsError).RuntimeError", "(runtime.errorString).RuntimeError", "(runtime.plainError).RuntimeError", "(runtime.errorAddressString).RuntimeError", "(*runtime.TypeAssertionError).Error", "(*runtime.TypeAssertionError).RuntimeError", "(*runtime.PanicNilError).RuntimeError", "(internal/runtime/maps.unhashableTypeError).Error", "(internal/runtime/maps.unhashableTypeError).RuntimeError", "(runtime.errorString).Error", "(runtime.plainError).Error", "(runtime.errorAddressString).Error", "(*runtime.PanicNilError).Error", "(internal/abi.Kind).String", "internal/bytealg.MakeNoZero"]
def okExt (fn : Func) : Bool := fn.body.isSome || (Extern.find fn).isNone || rowNames.contains fn.name || (fn.name == "slices.overlaps[cornice/api.Node]" && fn.origin == "slices.overlaps")
def okNext (fn : Func) : Bool := fn.body.isSome || (Extern.findNext fn).isNone
theorem all_ext : Tryz.prog.funcs.toList.all okExt = true := by kernel_rfl
theorem all_next : Tryz.prog.funcs.toList.all okNext = true := by kernel_rfl
theorem all_count : Tryz.prog.funcs.toList.all (fun fn => !(fn.name == "runtime.NumGoroutine")) = true := by kernel_rfl

theorem ext_row {fn : Func} {e : Array Value → Sem Value} (hf : Extern.find fn = some e) (h : fn.name ∈ rowNames) (args : Array Value) : To P Any (e args) := by
  simp only [rowNames, List.mem_cons, List.not_mem_nil, or_false] at h
  rcases h with h | h | h | h | h | h | h | h | h | h | h | h | h | h | h | h | h | h | h | h
  · rw [find_row h (by kernel_rfl) (by kernel_rfl) (e := Extern.BytealgCount.count) (by kernel_rfl)] at hf; cases hf; exact to_xCount args
  · rw [find_row h (by kernel_rfl) (by kernel_rfl) (e := Extern.BytealgIndex.index) (by kernel_rfl)] at hf; cases hf; exact to_xIndex args
  · rw [find_row h (by kernel_rfl) (by kernel_rfl) (e := Extern.AbiNoEscape.same) (by kernel_rfl)] at hf; cases hf; exact to_xSame args
  · rw [find_row h (by kernel_rfl) (by kernel_rfl) (e := Extern.BytealgIndexByte.indexByte) (by kernel_rfl)] at hf; cases hf; exact to_xIndexByte args
  · rw [find_row h (by kernel_rfl) (by kernel_rfl) (e := Extern.RuntimeError.boundsError) (by kernel_rfl)] at hf; cases hf; exact to_xBounds args
  · rw [find_row h (by kernel_rfl) (by kernel_rfl) (e := Extern.RuntimeError.nothing) (by kernel_rfl)] at hf; cases hf; exact to_xNothing args
  · rw [find_row h (by kernel_rfl) (by kernel_rfl) (e := Extern.RuntimeError.nothing) (by kernel_rfl)] at hf; cases hf; exact to_xNothing args
  · rw [find_row h (by kernel_rfl) (by kernel_rfl) (e := Extern.RuntimeError.nothing) (by kernel_rfl)] at hf; cases hf; exact to_xNothing args
  · rw [find_row h (by kernel_rfl) (by kernel_rfl) (e := Extern.RuntimeError.nothing) (by kernel_rfl)] at hf; cases hf; exact to_xNothing args
  · rw [find_row h (by kernel_rfl) (by kernel_rfl) (e := Extern.RuntimeError.typeAssertionError) (by kernel_rfl)] at hf; cases hf; exact to_xAssert args
  · rw [find_row h (by kernel_rfl) (by kernel_rfl) (e := Extern.RuntimeError.nothing) (by kernel_rfl)] at hf; cases hf; exact to_xNothing args
  · rw [find_row h (by kernel_rfl) (by kernel_rfl) (e := Extern.RuntimeError.nothing) (by kernel_rfl)] at hf; cases hf; exact to_xNothing args
  · rw [find_row h (by kernel_rfl) (by kernel_rfl) (e := Extern.RuntimeError.unhashableTypeError) (by kernel_rfl)] at hf; cases hf; exact to_xUnhash args
  · rw [find_row h (by kernel_rfl) (by kernel_rfl) (e := Extern.RuntimeError.nothing) (by kernel_rfl)] at hf; cases hf; exact to_xNothing args
  · rw [find_row h (by kernel_rfl) (by kernel_rfl) (e := fun args => do pure (.string ("runtime error: ".toUTF8 ++ (← asString (args.getD 0 (.tuple #[])))))) (by kernel_rfl)] at hf; cases hf
    dsimp only
    repeat' (first | exact trivial | assumption | (simp; done) | with_reducible refine To.seq ?_ (fun _ => ?_) | with_reducible refine To.forInL (fun _ _ => ?_) _ | with_reducible refine To.forInA (fun _ _ => ?_) _ | with_reducible refine To.forInR (fun _ _ => ?_) _ | with_reducible refine To.foldl (fun _ _ => ?_) _ _ | with_reducible refine To.mapA (fun _ => ?_) _ | split | with_reducible intro _ | dsimp only | (refine To.seq ?_ (fun _ => ?_)))
  · rw [find_row h (by kernel_rfl) (by kernel_rfl) (e := fun args => do pure (.string (← asString (args.getD 0 (.tuple #[]))))) (by kernel_rfl)] at hf; cases hf
    dsimp only
    repeat' (first | exact trivial | assumption | (simp; done) | with_reducible refine To.seq ?_ (fun _ => ?_) | with_reducible refine To.forInL (fun _ _ => ?_) _ | with_reducible refine To.forInA (fun _ _ => ?_) _ | with_reducible refine To.forInR (fun _ _ => ?_) _ | with_reducible refine To.foldl (fun _ _ => ?_) _ _ | with_reducible refine To.mapA (fun _ => ?_) _ | split | with_reducible intro _ | dsimp only | (refine To.seq ?_ (fun _ => ?_)))
  · rw [find_row h (by kernel_rfl) (by kernel_rfl) (e := fun args => do pure (.string ("runtime error: ".toUTF8 ++ (← asString ((← asAgg (args.getD 0 (.tuple #[]))).getD 0 (.tuple #[])))))) (by kernel_rfl)] at hf; cases hf
    dsimp only
    repeat' (first | exact trivial | assumption | (simp; done) | with_reducible refine To.seq ?_ (fun _ => ?_) | with_reducible refine To.forInL (fun _ _ => ?_) _ | with_reducible refine To.forInA (fun _ _ => ?_) _ | with_reducible refine To.forInR (fun _ _ => ?_) _ | with_reducible refine To.foldl (fun _ _ => ?_) _ _ | with_reducible refine To.mapA (fun _ => ?_) _ | split | with_reducible intro _ | dsimp only | (refine To.seq ?_ (fun _ => ?_)))
  · rw [find_row h (by kernel_rfl) (by kernel_rfl) (e := fun _ => Extern.RuntimeError.text "runtime error: panic called with nil argument") (by kernel_rfl)] at hf; cases hf
    dsimp only
    repeat' (first | exact trivial | assumption | (simp; done) | with_reducible refine To.seq ?_ (fun _ => ?_) | with_reducible refine To.forInL (fun _ _ => ?_) _ | with_reducible refine To.forInA (fun _ _ => ?_) _ | with_reducible refine To.forInR (fun _ _ => ?_) _ | with_reducible refine To.foldl (fun _ _ => ?_) _ _ | with_reducible refine To.mapA (fun _ => ?_) _ | split | with_reducible intro _ | dsimp only | (refine To.seq ?_ (fun _ => ?_)))
  · rw [find_row h (by kernel_rfl) (by kernel_rfl) (e := fun args => do pure (strVal (Extern.Rtype.kindName (← asInt (args.getD 0 (.tuple #[]))).toNat))) (by kernel_rfl)] at hf; cases hf
    dsimp only
    repeat' (first | exact trivial | assumption | (simp; done) | with_reducible refine To.seq ?_ (fun _ => ?_) | with_reducible refine To.forInL (fun _ _ => ?_) _ | with_reducible refine To.forInA (fun _ _ => ?_) _ | with_reducible refine To.forInR (fun _ _ => ?_) _ | with_reducible refine To.foldl (fun _ _ => ?_) _ _ | with_reducible refine To.mapA (fun _ => ?_) _ | split | with_reducible intro _ | dsimp only | (refine To.seq ?_ (fun _ => ?_)))
  · rw [find_typed h (by kernel_rfl) (e := Extern.BytealgMakeNoZero.makeNoZero) (by kernel_rfl)] at hf; cases hf; exact to_xMake _ _ args

theorem plain_prog : Plain Tryz.prog where
  count f fn hf := by
    have := List.all_eq_true.1 all_count fn (Array.mem_toList_iff.2 (Array.mem_of_getElem? hf))
    simpa using this
  next f fn hf hb := by
    have := List.all_eq_true.1 all_next fn (Array.mem_toList_iff.2 (Array.mem_of_getElem? hf))
    unfold okNext at this
    rw [Option.isNone_iff_eq_none] at hb
    rw [hb] at this
    simpa using this
  outer f fn hf hb e he args := by
    have := List.all_eq_true.1 all_ext fn (Array.mem_toList_iff.2 (Array.mem_of_getElem? hf))
    unfold okExt at this
    rw [Option.isNone_iff_eq_none] at hb
    rw [hb, he] at this
    simp only [Option.isSome_none, Option.isNone_some, Bool.false_or, Bool.or_eq_true, Bool.and_eq_true, beq_iff_eq, List.contains_iff_mem] at this
    rcases this with h | ⟨h1, h2⟩
    · exact ext_row he h args
    · rw [find_origin h1 (by kernel_rfl) (by kernel_rfl) (by kernel_rfl) h2 (by kernel_rfl) (e := Extern.SlicesOverlaps.overlaps) (by kernel_rfl)] at he
      cases he
      exact to_xOver _ _ args
end Go.Lift
