/- A part of the proof that the abstract interpreter is sound, and of the two goroutines of the lexer. -/
import Derived.Test.YticjebnbcnphkaaGreatDoorZLexA
import Derived.Test.YticjebnbcnphkaaGreatDoorZLiftY
import Derived.Lib.Bytealg
import Derived.Conc.AtomicLaws
import Derived.ProofKit

set_option linter.unusedSimpArgs false
set_option linter.unusedVariables false
set_option linter.unusedSectionVars false

namespace Go.Lift
open Go.Conc Go.Proofs

theorem look2 {s s' : Nat} {x x' : Value} {t : Nat} {v : Value} (h : look [(s, x), (s', x')] t = some v) : (t = s ∧ v = x) ∨ (t = s' ∧ v = x') := by
  simp only [look] at h
  split at h
  · exact .inl ⟨by assumption, by cases h; rfl⟩
  · split at h
    · exact .inr ⟨by assumption, by cases h; rfl⟩
    · cases h
theorem look3 {s s' s'' : Nat} {x x' x'' : Value} {t : Nat} {v : Value} (h : look [(s, x), (s', x'), (s'', x'')] t = some v) : (t = s ∧ v = x) ∨ (t = s' ∧ v = x') ∨ (t = s'' ∧ v = x'') := by
  simp only [look] at h
  split at h
  · exact .inl ⟨by assumption, by cases h; rfl⟩
  · split at h
    · exact .inr (.inl ⟨by assumption, by cases h; rfl⟩)
    · split at h
      · exact .inr (.inr ⟨by assumption, by cases h; rfl⟩)
      · cases h

def ibV (s : ByteArray) (c : Int) : Value := .int .i64 (Lib.indexByte s.data.toList c.toNat.toUInt8)

theorem ib_events {P : Program} (s : ByteArray) (c : Int) (w : World) (es : Array Event) : (Extern.BytealgIndexByte.indexByte #[.string s, .int .u8 c]).events P w es = es := by
  have h : Extern.BytealgIndexByte.indexByte #[.string s, .int .u8 c] = (do
    let b ← Extern.Bytes.bytesOf (.string s)
    let c ← Extern.Bytes.asByte (.int .u8 c)
    match (List.range b.size).find? fun i => b[i]! == c with
    | some i => pure (goInt i)
    | none => pure (goInt (-1)) : Sem Value) := rfl
  rw [h]
  simp [Extern.Bytes.bytesOf, Extern.Bytes.asByte]
  split <;> simp

theorem extern_lst {fn f : FuncId} : seen Tryz.prog fn #[⟨.mark (.extern f), false, true⟩] = #[] := by simp [seen]

theorem yx {P : Program} {S : List (Nat × Value)} {o : Oper} {fn : FuncId} {c : Call} {f : Operand} {g : FuncId} {args : Array Value} {v : Value} (ho : o.op = .call c) (hc : c.callee = .value f) (hf : evS S f = .func (.func g) #[] #[]) (ha : c.args.toList.map (evS S) = args.toList)
    (h : ∀ w, (callFunc g args).run P w = .ok (.value v) w ∧ seen P fn ((callFunc g args).events P w #[]) = #[]) (w : World) : (execOp (evS S) o).run P w = .ok (.value v) w ∧ lst P fn S o w = #[] := by
  unfold lst
  rw [exec_call ho hc hf ha, Array.append_empty]
  exact h w

theorem yx_g {P : Program} {S : List (Nat × Value)} {o : Oper} {fn : FuncId} {O : Own} {c : Call} {f : Operand} {g : FuncId} {args : Array Value} {v : Value} (ho : o.op = .call c) (hc : c.callee = .value f) (hf : evS S f = .func (.func g) #[] #[]) (ha : c.args.toList.map (evS S) = args.toList)
    (h : ∀ w, (callFunc g args).run P w = .ok (.value v) w ∧ seen P fn ((callFunc g args).events P w #[]) = #[]) (w : World) : (execOp (evS S) o).run P w = .ok (.value v) w ∧ Guar O w w (lst P fn S o w) :=
  ⟨(yx ho hc hf ha h w).1, guar_nil (yx ho hc hf ha h w).2⟩

set_option maxRecDepth 100000 in
theorem ib_195 (s : ByteArray) (c : Int) (O : Own) (w : World) : CallsO Tryz.prog false 195 #[.string s, .int .u8 c] O w (Pure (ibV s c) O w) := by
  refine callsO_S (c := _) [(0, .string s), (1, .int .u8 c)] Tryz.func195 rfl (Nat.le_of_ble_eq_true rfl) (fun t v h => by rcases look2 h with ⟨rfl, rfl⟩ | ⟨rfl, rfl⟩ <;> rfl) fun a hS => ?_
  refine wpO_seq (wpO_region (Yv.use hS rfl rfl rfl rfl (by decide) (yv_move (.inr rfl) rfl) fun a hS => opsO_nil ?_))
  refine wpO_seq (wpO_region ?_)
  refine Yv.use hS rfl rfl rfl rfl (by decide) (yv_move (.inl rfl) rfl) fun a hS => ?_
  refine Yv.use hS rfl rfl rfl rfl (by decide) (yv_move (.inl rfl) rfl) fun a hS => ?_
  refine opsS_val hS rfl rfl rfl rfl (by decide) (v := ibV s c) (fun w₁ _ => ?_) fun a hS => ?_
  · have hr : ∀ w, (callFunc 270 #[.string s, .int .u8 c]).run Tryz.prog w = .ok (.value (ibV s c)) w := fun w => by
      rw [run_callFunc_extern Tryz.func270 (by kernel_rfl) (by kernel_rfl) (by kernel_rfl) (e := Extern.BytealgIndexByte.indexByte) (by kernel_rfl), Lib.run_indexByteString]
      rfl
    have he : ∀ w, (callFunc 270 #[.string s, .int .u8 c]).events Tryz.prog w #[] = #[⟨.mark (.extern 270), false, true⟩] := fun w => by
      rw [events_callFunc_extern Tryz.func270 (by kernel_rfl) (by kernel_rfl) (by kernel_rfl) (e := Extern.BytealgIndexByte.indexByte) (by kernel_rfl), ib_events]
      rfl
    exact yx_g (args := #[.string s, .int .u8 c]) rfl rfl rfl rfl (fun w => ⟨hr w, by rw [he w]; exact extern_lst⟩) w₁
  refine Yv.use hS rfl rfl rfl rfl (by decide) (yv_move (.inr rfl) rfl) fun a hS => ?_
  exact opsO_nil (wpO_ret (res_tmp (t := 4) hS rfl rfl ⟨rfl, rfl, rfl⟩))

/-- a call of a function with a body -/
theorem yc {P : Program} {S : List (Nat × Value)} {o : Oper} {c : Call} {f : Operand} {g : FuncId} {fn : Func} {args caps : Array Value} (hfn : P.funcs[g]? = some fn) (hb : fn.body.isNone = false) (hn : (fn.name == "runtime.NumGoroutine") = false) (ho : o.op = .call c) (hc : c.callee = .value f) (hf : evS S f = .func (.func g) #[] caps) (ha : c.args.toList.map (evS S) = args.toList) (w : World) :
    (execOp (evS S) o).run P w = .ok (.enter g (args ++ caps)) w ∧ (execOp (evS S) o).events P w #[] = #[] := by
  rw [exec_call ho hc hf ha]
  exact enters_call hfn hb hn w

set_option maxRecDepth 100000 in
theorem ib_193 (s : ByteArray) (c : Int) (O : Own) (w : World) : CallsO Tryz.prog false 193 #[.string s, .int .u8 c] O w (Pure (ibV s c) O w) := by
  refine callsO_S (c := _) [(0, .string s), (1, .int .u8 c)] Tryz.func193 rfl (Nat.le_of_ble_eq_true rfl) (fun t v h => by rcases look2 h with ⟨rfl, rfl⟩ | ⟨rfl, rfl⟩ <;> rfl) fun a hS => ?_
  refine wpO_seq (wpO_region (Yv.use hS rfl rfl rfl rfl (by decide) (yv_move (.inr rfl) rfl) fun a hS => opsO_nil ?_))
  refine wpO_seq (wpO_region ?_)
  refine Yv.use hS rfl rfl rfl rfl (by decide) (yv_move (v := .string s) (.inl rfl) rfl) fun a hS => ?_
  refine Yv.use hS rfl rfl rfl rfl (by decide) (yv_move (v := .int .u8 c) (.inl rfl) rfl) fun a hS => ?_
  refine opsS_call hS rfl rfl rfl rfl (by decide) (yc (args := #[.string s, .int .u8 c]) (caps := #[]) Tryz.func195 rfl (by rfl) rfl rfl rfl rfl) (ib_195 s c O w) fun v O' w' a hR hS => ?_
  obtain ⟨rfl, rfl, rfl⟩ := hR
  refine Yv.use hS rfl rfl rfl rfl (by decide) (yv_move (.inr rfl) rfl) fun a hS => ?_
  exact opsO_nil (wpO_ret (res_tmp (t := 4) hS rfl rfl ⟨rfl, rfl, rfl⟩))

theorem agg9 (w : World) : (isAgg 9).run Tryz.prog w = .ok false w := Ai.isAgg_run (b := false) (by kernel_rfl) w

set_option maxRecDepth 100000 in
/-- is(x): the closure -/
theorem is_c (x : ByteArray) (p : Nat → Bool) (hp : ∀ c : Nat, c < 256 → decide (Lib.indexByte x.data.toList (Int.toNat (c : Int)).toUInt8 ≥ 0) = p c) (c : Nat) (hc : c < 256) (b : Nat) (O : Own) (w : World) (hb : O b) (hx : w.heap[b]? = some (.cells #[.string x] 9 (0, 0))) :
    CallsO Tryz.prog false 192 #[.int .u8 c, .pointer (some ⟨b, 0, none⟩)] O w (Pure (.bool (p c)) O w) := by
  refine callsO_S (c := _) [(0, .int .u8 c), (1, .pointer (some ⟨b, 0, none⟩))] Tryz.func192 rfl (Nat.le_of_ble_eq_true rfl) (fun t v h => by rcases look2 h with ⟨rfl, rfl⟩ | ⟨rfl, rfl⟩ <;> rfl) fun a hS => ?_
  refine wpO_seq (wpO_region (Yv.use hS rfl rfl rfl rfl (by decide) (yv_move (.inr rfl) rfl) fun a hS => opsO_nil ?_))
  refine wpO_seq (wpO_region ?_)
  refine Yl.use hb hx hS rfl rfl rfl rfl (by decide) (yl_load1 (off := 0) (v := .string x) rfl agg9 rfl rfl) fun a hS => ?_
  refine Yv.use hS rfl rfl rfl rfl (by decide) (yv_move (v := .int .u8 c) (.inl rfl) rfl) fun a hS => ?_
  refine opsS_call hS rfl rfl rfl rfl (by decide) (yc (args := #[.string x, .int .u8 c]) (caps := #[]) Tryz.func193 rfl (by rfl) rfl rfl rfl rfl) (ib_193 x c O w) fun v O' w' a hR hS => ?_
  obtain ⟨rfl, rfl, rfl⟩ := hR
  refine Yv.use hS rfl rfl rfl rfl (by decide) (yv_cmp (q := p c) rfl rfl rfl (congrArg some (hp c hc))) fun a hS => ?_
  refine Yv.use hS rfl rfl rfl rfl (by decide) (yv_move (.inr rfl) rfl) fun a hS => ?_
  exact opsO_nil (wpO_ret (res_tmp (t := 3) hS rfl rfl ⟨rfl, rfl, rfl⟩))

set_option maxRecDepth 100000 in
theorem one_c (s : ByteArray) (O : Own) (w : World) : CallsO Tryz.prog false 118 #[.string s] O w (Pure (.int .i64 1) O w) := by
  refine callsO_S (c := _) [(0, .string s)] Tryz.func118 rfl (Nat.le_of_ble_eq_true rfl) (fun t v h => by obtain ⟨rfl, rfl⟩ := look1 h; rfl) fun a hS => ?_
  refine wpO_seq (wpO_region (Yv.use hS rfl rfl rfl rfl (by decide) (yv_move (.inr rfl) rfl) fun a hS => opsO_nil ?_))
  refine wpO_seq (wpO_region (Yv.use hS rfl rfl rfl rfl (by decide) (yv_move (.inr rfl) rfl) fun a hS => opsO_nil ?_))
  exact wpO_ret (res_tmp (t := 2) hS rfl rfl ⟨rfl, rfl, rfl⟩)
end Go.Lift

namespace Go.Lift
open Go.Conc Go.Proofs

def byt (s : ByteArray) : List Nat := s.data.toList.map UInt8.toNat
theorem byt_get {s : ByteArray} {i : Nat} {c : UInt8} (h : s.data[i]? = some c) : (byt s)[i]? = some c.toNat := by
  unfold byt
  rw [List.getElem?_map]
  simp [h]
theorem byt_len (s : ByteArray) : (byt s).length = s.size := by simp [byt]
theorem mixed : Tryz.prog.follows .mixedOrders = true := by kernel_rfl
theorem agg26 (w : World) : (isAgg 26).run Tryz.prog w = .ok false w := Ai.isAgg_run (b := false) (by kernel_rfl) w
theorem tk_step (p : Nat → Bool) (l : List Nat) (i c : Nat) (h : l[i]? = some c) (hp : p c = true) : (Ai.tk p (l.drop i)).length = (Ai.tk p (l.drop (i + 1))).length + 1 := by
  obtain ⟨h1, h2⟩ := List.getElem?_eq_some_iff.1 h
  rw [List.drop_eq_getElem_cons h1, h2]
  simp [Ai.tk, hp]
theorem tk_stop (p : Nat → Bool) (l : List Nat) (i c : Nat) (h : l[i]? = some c) (hp : p c = false) : (Ai.tk p (l.drop i)).length = 0 := by
  obtain ⟨h1, h2⟩ := List.getElem?_eq_some_iff.1 h
  rw [List.drop_eq_getElem_cons h1, h2]
  simp [Ai.tk, hp]

def WI (s : ByteArray) (p : Nat → Bool) (b : Nat) (O : Own) (w : World) (m : Nat) (a : Act) (O' : Own) (w' : World) : Prop :=
  O' = O ∧ w' = w ∧ ∃ i : Nat, i ≤ s.size ∧ m = s.size - i ∧ i + (Ai.tk p ((byt s).drop i)).length = (Ai.tk p (byt s)).length ∧ Sl [(4, .int .i64 i), (0, .string s), (1, .pointer (some ⟨b, 0, none⟩))] 19 [] a

set_option maxRecDepth 100000 in
theorem while_c (s : ByteArray) (hs : s.size ≤ 20000) (p : Nat → Bool) (b g : Nat) (caps : Array Value) (O : Own) (w : World) (hb : O b) (hx : w.heap[b]? = some (.cells #[.func (.func g) #[] caps] 26 (0, 0))) {fnc : Func} (hfn : Tryz.prog.funcs[g]? = some fnc) (hbody : fnc.body.isNone = false) (hname : (fnc.name == "runtime.NumGoroutine") = false)
    (hcall : ∀ c : Nat, c < 256 → CallsO Tryz.prog false g (#[.int .u8 c] ++ caps) O w (Pure (.bool (p c)) O w)) :
    CallsO Tryz.prog false 194 #[.string s, .pointer (some ⟨b, 0, none⟩)] O w (Pure (.int .i64 ((Ai.tk p (byt s)).length : Nat)) O w) := by
  refine callsO_S (c := _) [(0, .string s), (1, .pointer (some ⟨b, 0, none⟩))] Tryz.func194 rfl (Nat.le_of_ble_eq_true rfl) (fun t v h => by rcases look2 h with ⟨rfl, rfl⟩ | ⟨rfl, rfl⟩ <;> rfl) fun a hS => ?_
  refine wpO_seq (wpO_region (Yv.use hS rfl rfl rfl rfl (by decide) (yv_move (.inr rfl) rfl) fun a hS => opsO_nil ?_))
  refine wpO_seq (wpO_region (Yv.use hS rfl rfl rfl rfl (by decide) (yv_move (v := .int .i64 (0 : Nat)) (.inr rfl) rfl) fun a hS => opsO_nil ?_))
  refine wpO_seq (wpO_block (wpO_loop (WI s p b O w) s.size ⟨rfl, rfl, 0, Nat.zero_le _, rfl, by simp, ?_⟩ ?_))
  · refine hS.sub fun t v h => ?_
    rcases look3 h with ⟨rfl, rfl⟩ | ⟨rfl, rfl⟩ | ⟨rfl, rfl⟩ <;> rfl
  rintro m a O' w' ⟨rfl, rfl, i, hi, rfl, hsum, hS⟩
  rcases Nat.lt_or_ge i s.size with hlt | hge
  · have hc : s.data[i]? = some (s.data[i]'hlt) := Array.getElem?_eq_getElem hlt
    generalize s.data[i]'hlt = c at hc
    have hcl := byt_get hc
    have hc256 : c.toNat < 256 := c.toNat_lt
    refine wpO_seq (wpO_seq (opsS_draw (m := 9) mixed hS [(5, .int .i64 i), (6, .string s), (7, .int .i64 s.size), (8, .bool true), (9, .bool true), (10, .func (.func g) #[] caps), (11, .string s), (12, .int .i64 i), (13, .int .u8 c.toNat)] ?_ (fun j hj => ?_) fun a hS => ?_))
    · kernel_rfl
    · match j, hj with
      | 0, _ => exact ⟨_, rfl, calm_yv rfl (by decide) rfl rfl rfl (yv_move (.inl rfl) rfl)⟩
      | 1, _ => exact ⟨_, rfl, calm_yv rfl (by decide) rfl rfl rfl (yv_move (.inl rfl) rfl)⟩
      | 2, _ => exact ⟨_, rfl, calm_yv rfl (by decide) rfl rfl rfl (yv_len_str rfl rfl rfl rfl Tryz.underlying9 rfl)⟩
      | 3, _ => exact ⟨_, rfl, calm_yv rfl (by decide) rfl rfl rfl (yv_cmp rfl rfl rfl (congrArg some (decide_eq_true (by omega))))⟩
      | 4, _ => exact ⟨_, rfl, calm_yv rfl (by decide) rfl rfl rfl (yv_move (.inl rfl) rfl)⟩
      | 5, _ => exact ⟨_, rfl, calm_yl hb hx rfl (by decide) rfl rfl rfl (yl_load1 (off := 0) rfl agg26 rfl rfl)⟩
      | 6, _ => exact ⟨_, rfl, calm_yv rfl (by decide) rfl rfl rfl (yv_move (.inl rfl) rfl)⟩
      | 7, _ => exact ⟨_, rfl, calm_yv rfl (by decide) rfl rfl rfl (yv_move (.inl rfl) rfl)⟩
      | 8, _ => exact ⟨_, rfl, calm_yv rfl (by decide) rfl rfl rfl (yv_index rfl Tryz.underlying9 rfl rfl hc)⟩
      | j + 9, hj => omega
    refine opsS_call hS rfl rfl rfl rfl (by decide) (yc (args := #[.int .u8 c.toNat]) (caps := caps) hfn hbody hname rfl rfl rfl rfl) (hcall c.toNat hc256) fun v O' w' a hR hS => ?_
    obtain ⟨rfl, rfl, rfl⟩ := hR
    refine Yv.use hS rfl rfl rfl rfl (by decide) (yv_pick (v := .bool (p c.toNat)) rfl rfl rfl) fun a hS => opsO_nil ?_
    cases hp : p c.toNat with
    | true =>
      rw [hp] at hS
      refine wpO_condS hS rfl rfl (wpO_skip ?_)
      refine wpO_block (wpO_region ?_)
      refine Yv.use hS rfl rfl rfl rfl (by decide) (yv_move (v := .int .i64 i) (.inl rfl) rfl) fun a hS => ?_
      refine Yv.use hS rfl rfl rfl rfl (by decide) (yv_add (r := ((i + 1 : Nat) : Int)) rfl rfl rfl (by rw [IntKind.wrap_i64]; omega)) fun a hS => ?_
      refine Yv.use hS rfl rfl rfl rfl (by decide) (yv_move (v := .int .i64 (i + 1 : Nat)) (.inr rfl) rfl) fun a hS => ?_
      refine opsO_nil ⟨s.size - (i + 1), by omega, rfl, rfl, i + 1, hlt, rfl, ?_, ?_⟩
      · have := tk_step p (byt s) i c.toNat hcl hp; omega
      · refine hS.sub fun t v h => ?_
        rcases look3 h with ⟨rfl, rfl⟩ | ⟨rfl, rfl⟩ | ⟨rfl, rfl⟩ <;> rfl
    | false =>
      rw [hp] at hS
      have hz := tk_stop p (byt s) i c.toNat hcl hp
      refine wpO_condS hS rfl rfl (wpO_exit ?_)
      simp only [thenO, blockO, if_true]
      refine wpO_seq (wpO_region ?_)
      refine Yv.use hS rfl rfl rfl rfl (by decide) (yv_move (v := .int .i64 ((Ai.tk p (byt s)).length : Nat)) (.inl rfl) (by show Value.int .i64 (i : Int) = _; congr 1; omega)) fun a hS => ?_
      refine Yv.use hS rfl rfl rfl rfl (by decide) (yv_move (.inr rfl) rfl) fun a hS => opsO_nil ?_
      exact wpO_ret (res_tmp (t := 3) hS rfl rfl ⟨rfl, rfl, rfl⟩)
  · have hie : i = s.size := Nat.le_antisymm hi hge
    have hz : (Ai.tk p ((byt s).drop i)).length = 0 := by rw [List.drop_eq_nil_of_le (by rw [byt_len]; exact hge)]; rfl
    refine wpO_seq (wpO_seq (opsS_draw (m := 9) mixed hS [(5, .int .i64 i), (6, .string s), (7, .int .i64 s.size), (8, .bool false), (9, .bool false), (10, undef), (11, undef), (12, undef), (13, undef)] ?_ (fun j hj => ?_) fun a hS => ?_))
    · kernel_rfl
    · match j, hj with
      | 0, _ => exact ⟨_, rfl, calm_yv rfl (by decide) rfl rfl rfl (yv_move (.inl rfl) rfl)⟩
      | 1, _ => exact ⟨_, rfl, calm_yv rfl (by decide) rfl rfl rfl (yv_move (.inl rfl) rfl)⟩
      | 2, _ => exact ⟨_, rfl, calm_yv rfl (by decide) rfl rfl rfl (yv_len_str rfl rfl rfl rfl Tryz.underlying9 rfl)⟩
      | 3, _ => exact ⟨_, rfl, calm_yv rfl (by decide) rfl rfl rfl (yv_cmp rfl rfl rfl (congrArg some (decide_eq_false (by omega))))⟩
      | 4, _ => exact ⟨_, rfl, calm_yv rfl (by decide) rfl rfl rfl (yv_move (.inl rfl) rfl)⟩
      | 5, _ => exact ⟨_, rfl, calm_no rfl (by decide) rfl rfl⟩
      | 6, _ => exact ⟨_, rfl, calm_no rfl (by decide) rfl rfl⟩
      | 7, _ => exact ⟨_, rfl, calm_no rfl (by decide) rfl rfl⟩
      | 8, _ => exact ⟨_, rfl, calm_no rfl (by decide) rfl rfl⟩
      | j + 9, hj => omega
    refine opsS_skip hS rfl rfl rfl (by decide) fun a hS => ?_
    refine Yv.use hS rfl rfl rfl rfl (by decide) (yv_pick (v := .bool false) rfl rfl rfl) fun a hS => opsO_nil ?_
    refine wpO_condS hS rfl rfl (wpO_exit ?_)
    simp only [thenO, blockO, if_true]
    refine wpO_seq (wpO_region ?_)
    refine Yv.use hS rfl rfl rfl rfl (by decide) (yv_move (v := .int .i64 ((Ai.tk p (byt s)).length : Nat)) (.inl rfl) (by show Value.int .i64 (i : Int) = _; congr 1; omega)) fun a hS => ?_
    refine Yv.use hS rfl rfl rfl rfl (by decide) (yv_move (.inr rfl) rfl) fun a hS => opsO_nil ?_
    exact wpO_ret (res_tmp (t := 3) hS rfl rfl ⟨rfl, rfl, rfl⟩)
end Go.Lift

namespace Go.Lift
open Go.Conc Go.Proofs

/-- what one's own steps leave -/
structure Kp (O : Own) (w : World) (O' : Own) (w' : World) : Prop where
  sub : ∀ j, O j → O' j
  new : ∀ j, O' j → O j ∨ w.heap.size ≤ j
  keep : ∀ j, O j → j < w.heap.size → w'.heap[j]? = w.heap[j]?
  size : w.heap.size ≤ w'.heap.size
theorem Kp.refl (O : Own) (w : World) : Kp O w O w := ⟨fun _ h => h, fun _ h => .inl h, fun _ _ _ => rfl, Nat.le_refl _⟩
theorem Kp.trans {O O1 O2 : Own} {w w1 w2 : World} (h : Kp O w O1 w1) (k : Kp O1 w1 O2 w2) : Kp O w O2 w2 :=
  ⟨fun j hj => k.sub j (h.sub j hj), fun j hj => by
    rcases k.new j hj with h1 | h1
    · exact h.new j h1
    · exact .inr (Nat.le_trans h.size h1), fun j hj hlt => (k.keep j (h.sub j hj) (Nat.lt_of_lt_of_le hlt h.size)).trans (h.keep j hj hlt), Nat.le_trans h.size k.size⟩
theorem Kp.heap {O O' : Own} {w w' : World} (h : Kp O w O' w') {b : Nat} {obj : Obj} (hb : O b) (hc : w.heap[b]? = some obj) : w'.heap[b]? = some obj := (h.keep b hb (Array.getElem?_eq_some_iff.1 hc).1).trans hc

def NewB (mk : Nat → Value) (obj : Obj) (O : Own) (w : World) : Value → Own → World → Prop := fun v O' w' => ∃ k, v = mk k ∧ O' k ∧ w'.heap[k]? = some obj ∧ Kp O w O' w'

theorem yv_makeFunc {P : Program} {S : List (Nat × Value)} {o : Oper} {g : FuncId} {x : Operand} {v : Value} (ho : o.op = .makeFunc (.func g) #[] #[x]) (hx : evS S x = v) : Yv P S o (.func (.func g) #[] #[v]) := fun w => by
  unfold execOp; rw [ho]; subst hx
  simp [Instr.makeFunc]

theorem size9 (w : World) : (sizeOf 9).run Tryz.prog w = .ok 1 w := Ai.size_run (by kernel_rfl) w
theorem size26 (w : World) : (sizeOf 26).run Tryz.prog w = .ok 1 w := Ai.size_run (by kernel_rfl) w

set_option maxRecDepth 100000 in
theorem is_new (x : ByteArray) (O : Own) (w : World) : CallsO Tryz.prog false 115 #[.string x] O w (NewB (fun k => .func (.func 192) #[] #[.pointer (some ⟨k, 0, none⟩)]) (.cells #[.string x] 9 (0, 0)) O w) := by
  refine callsO_S (c := _) [(0, .string x)] Tryz.func115 rfl (Nat.le_of_ble_eq_true rfl) (fun t v h => by obtain ⟨rfl, rfl⟩ := look1 h; rfl) fun a hS => ?_
  refine wpO_seq (wpO_region ?_)
  refine Yn.use hS rfl rfl rfl rfl (by decide) (mk := fun k => .pointer (some ⟨k, 0, none⟩)) (obj := .cells #[.string x] 9 (0, 0)) (yn_box rfl size9 rfl rfl) fun k O' w' a q1 q2 q3 q4 q5 q6 q7 q8 hS => ?_
  refine Yv.use hS rfl rfl rfl rfl (by decide) (yv_move (.inr rfl) rfl) fun a hS => opsO_nil ?_
  refine wpO_seq (wpO_region ?_)
  refine Yv.use hS rfl rfl rfl rfl (by decide) (yv_makeFunc rfl rfl) fun a hS => ?_
  refine Yv.use hS rfl rfl rfl rfl (by decide) (yv_move (.inr rfl) rfl) fun a hS => opsO_nil ?_
  exact wpO_ret (res_tmp (t := 2) hS rfl rfl ⟨k, rfl, q1, q4, q5, q6, q7, q8⟩)

set_option maxRecDepth 100000 in
theorem while_new (g : FuncId) (caps : Array Value) (O : Own) (w : World) : CallsO Tryz.prog false 117 #[.func (.func g) #[] caps] O w (NewB (fun k => .func (.func 194) #[] #[.pointer (some ⟨k, 0, none⟩)]) (.cells #[.func (.func g) #[] caps] 26 (0, 0)) O w) := by
  refine callsO_S (c := _) [(0, .func (.func g) #[] caps)] Tryz.func117 rfl (Nat.le_of_ble_eq_true rfl) (fun t v h => by obtain ⟨rfl, rfl⟩ := look1 h; rfl) fun a hS => ?_
  refine wpO_seq (wpO_region ?_)
  refine Yn.use hS rfl rfl rfl rfl (by decide) (mk := fun k => .pointer (some ⟨k, 0, none⟩)) (obj := .cells #[.func (.func g) #[] caps] 26 (0, 0)) (yn_box rfl size26 rfl rfl) fun k O' w' a q1 q2 q3 q4 q5 q6 q7 q8 hS => ?_
  refine Yv.use hS rfl rfl rfl rfl (by decide) (yv_move (.inr rfl) rfl) fun a hS => opsO_nil ?_
  refine wpO_seq (wpO_region ?_)
  refine Yv.use hS rfl rfl rfl rfl (by decide) (yv_makeFunc rfl rfl) fun a hS => ?_
  refine Yv.use hS rfl rfl rfl rfl (by decide) (yv_move (.inr rfl) rfl) fun a hS => opsO_nil ?_
  exact wpO_ret (res_tmp (t := 2) hS rfl rfl ⟨k, rfl, q1, q4, q5, q6, q7, q8⟩)

def fnW : Value := .func (.func 116) #[] #[]
def fnI (b : Nat) : Value := .func (.func 192) #[] #[.pointer (some ⟨b, 0, none⟩)]
def fnL (b : Nat) : Value := .func (.func 194) #[] #[.pointer (some ⟨b, 0, none⟩)]
def fn1 : Value := .func (.func 118) #[] #[]
def bB : ByteArray := ⟨#[9, 10, 13, 32]⟩
def bO : ByteArray := ⟨#[40]⟩
def bC : ByteArray := ⟨#[41]⟩

/-- the rules, where they lie -/
structure RulesAt (k b1 b2 b3 b4 b5 : Nat) (O : Own) (w : World) : Prop where
  row : ∃ x y, O k ∧ w.heap[k]? = some (.cells #[fnW, fnL b1, .int .i64 1, fnI b2, fnL b3, .int .i64 0, fnI b4, fn1, .int .i64 2, fnI b5, fn1, .int .i64 3, x, y, .int .i64 0] 146 (0, 0))
  r1 : O b1 ∧ w.heap[b1]? = some (.cells #[fnW] 26 (0, 0))
  r2 : O b2 ∧ w.heap[b2]? = some (.cells #[.string bB] 9 (0, 0))
  r3 : O b3 ∧ w.heap[b3]? = some (.cells #[fnI b2] 26 (0, 0))
  r4 : O b4 ∧ w.heap[b4]? = some (.cells #[.string bO] 9 (0, 0))
  r5 : O b5 ∧ w.heap[b5]? = some (.cells #[.string bC] 9 (0, 0))
theorem RulesAt.kp {k b1 b2 b3 b4 b5 : Nat} {O O' : Own} {w w' : World} (h : RulesAt k b1 b2 b3 b4 b5 O w) (q : Kp O w O' w') : RulesAt k b1 b2 b3 b4 b5 O' w' := by
  obtain ⟨x, y, h1, h2⟩ := h.row
  exact ⟨⟨x, y, q.sub _ h1, q.heap h1 h2⟩, ⟨q.sub _ h.r1.1, q.heap h.r1.1 h.r1.2⟩, ⟨q.sub _ h.r2.1, q.heap h.r2.1 h.r2.2⟩, ⟨q.sub _ h.r3.1, q.heap h.r3.1 h.r3.2⟩, ⟨q.sub _ h.r4.1, q.heap h.r4.1 h.r4.2⟩, ⟨q.sub _ h.r5.1, q.heap h.r5.1 h.r5.2⟩⟩

set_option maxRecDepth 100000 in
theorem rules_c (O : Own) (w : World) : CallsO Tryz.prog false 66 #[] O w fun v O' w' => ∃ k b1 b2 b3 b4 b5, v = .slice (some ⟨k, 0, none⟩) 5 5 ∧ RulesAt k b1 b2 b3 b4 b5 O' w' ∧ Kp O w O' w' := by
  refine callsO_S (c := _) [] Tryz.func66 rfl (Nat.le_of_ble_eq_true rfl) (fun t v h => by cases h) fun a hS => ?_
  refine wpO_seq (wpO_region (Yv.use hS rfl rfl rfl rfl (by decide) (yv_move (.inr rfl) rfl) fun a hS => opsO_nil ?_))
  refine wpO_seq (wpO_region ?_)
  refine opsS_call hS rfl rfl rfl rfl (by decide) (yc (args := #[.string bB]) (caps := #[]) Tryz.func115 rfl (by rfl) rfl rfl rfl rfl) (is_new bB O w) fun v O1 w1 a hR hS => ?_
  obtain ⟨b2, rfl, o2, h2, K1⟩ := hR
  refine Yv.use hS rfl rfl rfl rfl (by decide) (yv_move (v := fnI b2) (.inr rfl) rfl) fun a hS => opsO_nil ?_
  refine wpO_seq (wpO_region ?_)
  refine opsS_call hS rfl rfl rfl rfl (by decide) (yc (args := #[fnW]) (caps := #[]) Tryz.func117 rfl (by rfl) rfl rfl rfl rfl) (while_new 116 #[] O1 w1) fun v O2 w2 a hR hS => ?_
  obtain ⟨b1, rfl, o1, h1, K2⟩ := hR
  refine Yv.use hS rfl rfl rfl rfl (by decide) (v := .agg #[fnW, fnL b1, .int .i64 1]) (fun w => ⟨by kernel_rfl, by kernel_rfl⟩) fun a hS => ?_
  refine Yv.use hS rfl rfl rfl rfl (by decide) (yv_move (v := fnI b2) (.inl rfl) rfl) fun a hS => ?_
  refine Yv.use hS rfl rfl rfl rfl (by decide) (yv_move (v := fnI b2) (.inl rfl) rfl) fun a hS => ?_
  refine opsS_call hS rfl rfl rfl rfl (by decide) (yc (args := #[fnI b2]) (caps := #[]) Tryz.func117 rfl (by rfl) rfl rfl rfl rfl) (while_new 192 #[.pointer (some ⟨b2, 0, none⟩)] O2 w2) fun v O3 w3 a hR hS => ?_
  obtain ⟨b3, rfl, o3, h3, K3⟩ := hR
  refine Yv.use hS rfl rfl rfl rfl (by decide) (v := .agg #[fnI b2, fnL b3, .int .i64 0]) (fun w => ⟨by kernel_rfl, by kernel_rfl⟩) fun a hS => ?_
  refine opsS_call hS rfl rfl rfl rfl (by decide) (yc (args := #[.string bO]) (caps := #[]) Tryz.func115 rfl (by rfl) rfl rfl rfl rfl) (is_new bO O3 w3) fun v O4 w4 a hR hS => ?_
  obtain ⟨b4, rfl, o4, h4, K4⟩ := hR
  refine Yv.use hS rfl rfl rfl rfl (by decide) (v := .agg #[fnI b4, fn1, .int .i64 2]) (fun w => ⟨by kernel_rfl, by kernel_rfl⟩) fun a hS => ?_
  refine opsS_call hS rfl rfl rfl rfl (by decide) (yc (args := #[.string bC]) (caps := #[]) Tryz.func115 rfl (by rfl) rfl rfl rfl rfl) (is_new bC O4 w4) fun v O5 w5 a hR hS => ?_
  obtain ⟨b5, rfl, o5, h5, K5⟩ := hR
  refine Yv.use hS rfl rfl rfl rfl (by decide) (v := .agg #[fnI b5, fn1, .int .i64 3]) (fun w => ⟨by kernel_rfl, by kernel_rfl⟩) fun a hS => ?_
  refine opsS_call hS rfl rfl rfl rfl (by decide) (yc (args := #[.string ⟨#[59]⟩]) (caps := #[]) Tryz.func115 rfl (by rfl) rfl rfl rfl rfl) (is_new ⟨#[59]⟩ O5 w5) fun v O6 w6 a hR hS => ?_
  obtain ⟨b6, rfl, o6, h6, K6⟩ := hR
  refine opsS_call hS rfl rfl rfl rfl (by decide) (yc (args := #[.func (.func 119) #[] #[]]) (caps := #[]) Tryz.func117 rfl (by rfl) rfl rfl rfl rfl) (while_new 119 #[] O6 w6) fun v O7 w7 a hR hS => ?_
  obtain ⟨b7, rfl, o7, h7, K7⟩ := hR
  refine Yv.use hS rfl rfl rfl rfl (by decide) (v := .agg #[fnI b6, fnL b7, .int .i64 0]) (fun w => ⟨by kernel_rfl, by kernel_rfl⟩) fun a hS => ?_
  refine Yn.use hS rfl rfl rfl rfl (by decide) (mk := fun k => .slice (some ⟨k, 0, none⟩) 5 5) (obj := .cells #[fnW, fnL b1, .int .i64 1, fnI b2, fnL b3, .int .i64 0, fnI b4, fn1, .int .i64 2, fnI b5, fn1, .int .i64 3, fnI b6, fnL b7, .int .i64 0] 146 (0, 0)) (fun w => ⟨by kernel_rfl, by kernel_rfl⟩) fun k O8 w8 a q1 q2 q3 q4 q5 q6 q7 q8 hS => ?_
  have K8 : Kp O7 w7 O8 w8 := ⟨q5, q6, q7, q8⟩
  refine Yv.use hS rfl rfl rfl rfl (by decide) (yv_move (.inr rfl) rfl) fun a hS => opsO_nil ?_
  have C2 := ((((K2.trans K3).trans K4).trans K5).trans K6).trans (K7.trans K8)
  have C3 := (((K3.trans K4).trans K5).trans K6).trans (K7.trans K8)
  have C4 := ((K4.trans K5).trans K6).trans (K7.trans K8)
  have C5 := (K5.trans K6).trans (K7.trans K8)
  have C6 := K6.trans (K7.trans K8)
  exact wpO_ret (res_tmp (t := 0) hS rfl rfl ⟨k, b1, b2, b3, b4, b5, rfl, ⟨⟨_, _, q1, q4⟩, ⟨C3.sub _ o1, C3.heap o1 h1⟩, ⟨C2.sub _ o2, C2.heap o2 h2⟩, ⟨C4.sub _ o3, C4.heap o3 h3⟩, ⟨C5.sub _ o4, C5.heap o4 h4⟩, ⟨C6.sub _ o5, C6.heap o5 h5⟩⟩, K1.trans C2⟩)
end Go.Lift

namespace Go.Lift
open Go.Conc Go.Proofs

theorem yv_slice {P : Program} {S : List (Nat × Value)} {o : Oper} {t : TypeId} {x l : Operand} {h : Option Operand} {s : ByteArray} {i j : Nat} (ho : o.op = .slice t x (some l) h none) (hu : P.underlying t = some .string) (hx : evS S x = .string s) (hl : evS S l = .int .i64 i) (hh : (h = none ∧ j = s.size) ∨ ∃ y, h = some y ∧ evS S y = .int .i64 j) (h1 : i ≤ j) (h2 : j ≤ s.size) : Yv P S o (.string (s.extract i j)) := fun w => by
  unfold execOp; rw [ho]
  rcases hh with ⟨rfl, rfl⟩ | ⟨y, rfl, hy⟩
  · simp [Instr.sliceAt, Instr.slice, Instr.sliceBounds, Instr.sliceBound, run_underlying hu, events_underlying, hx, hl, asIntOf, h1]
  · have h3 : (i : Int) ≤ (j : Int) := by omega
    have h4 : (j : Int) ≤ (s.size : Int) := by omega
    simp [Instr.sliceAt, Instr.slice, Instr.sliceBounds, Instr.sliceBound, run_underlying hu, events_underlying, hx, hl, hy, asIntOf, h1, h2, h3, h4]

theorem yv_iaddr {P : Program} {S : List (Nat × Value)} {o : Oper} {t el : TypeId} {x ix : Operand} {k off n cap i sz : Nat} (ho : o.op = .indexAddr t x ix) (hu : P.underlying t = some (.slice el)) (hs : ∀ w, (sizeOf el).run P w = .ok sz w) (hx : evS S x = .slice (some ⟨k, off, none⟩) n cap) (hi : evS S ix = .int .i64 i) (hlt : i < n) : Yv P S o (.pointer (some ⟨k, off + i * sz, none⟩)) := fun w => by
  have hadd : ∀ j, (⟨k, off, none⟩ : Addr).add j = ⟨k, off + j, none⟩ := fun j => by unfold Addr.add; split <;> simp_all
  have h2 : (i : Int) < (n : Int) := by omega
  unfold execOp; rw [ho]
  refine ⟨?_, ?_⟩
  · simp [Instr.indexAt, run_underlying hu, hx, hi, asIntOf, h2, hlt, hs, hadd]
  · simp [Instr.indexAt, run_underlying hu, events_underlying, hx, hi, asIntOf, h2, hlt, hs, hadd]

def AllL (S : List (Nat × Value)) : List (Nat × Value) → Prop
  | [] => True
  | x :: r => look S x.1 = some x.2 ∧ AllL S r
theorem AllL.look {S : List (Nat × Value)} : ∀ {S' : List (Nat × Value)}, AllL S S' → ∀ t v, look S' t = some v → Lift.look S t = some v
  | [], _, t, v, h => by cases h
  | (s, x) :: r, ⟨h1, h2⟩, t, v, h => by
    simp only [Lift.look] at h
    by_cases hts : t = s
    · rw [if_pos hts] at h; cases h; rw [hts]; exact h1
    · rw [if_neg hts] at h; exact AllL.look h2 t v h
theorem Sl.cut {S S' : List (Nat × Value)} {n : Nat} {ds : List Deferred} {a : Act} (h : Sl S n ds a) (hs : AllL S S') : Sl S' n ds a := h.sub hs.look

theorem size146 (w : World) : (sizeOf 146).run Tryz.prog w = .ok 3 w := Ai.size_run (by kernel_rfl) w
theorem size93 (w : World) : (sizeOf 93).run Tryz.prog w = .ok 4 w := Ai.size_run (by kernel_rfl) w
theorem agg146 (w : World) : (isAgg 146).run Tryz.prog w = .ok true w := Ai.isAgg_run (b := true) (by kernel_rfl) w
theorem agg93 (w : World) : (isAgg 93).run Tryz.prog w = .ok true w := Ai.isAgg_run (b := true) (by kernel_rfl) w
theorem agg144 (w : World) : (isAgg 144).run Tryz.prog w = .ok false w := Ai.isAgg_run (b := false) (by kernel_rfl) w
theorem agg3 (w : World) : (isAgg 3).run Tryz.prog w = .ok false w := Ai.isAgg_run (b := false) (by kernel_rfl) w
theorem agg34 (w : World) : (isAgg 34).run Tryz.prog w = .ok false w := Ai.isAgg_run (b := false) (by kernel_rfl) w
def z93 : Value := .agg #[.int .i64 0, .int .i64 0, .string ⟨#[]⟩, .int .i64 0]
theorem zero93 (w : World) : (zeroValue 93).run Tryz.prog w = .ok z93 w := by kernel_rfl
def z146 : Value := .agg #[.nilFunc, .nilFunc, .int .i64 0]
theorem zero146 (w : World) : (zeroValue 146).run Tryz.prog w = .ok z146 w := by kernel_rfl

def vI (n : Nat) : Value := .int .i64 (n : Int)
def vP (b o : Nat) : Value := .pointer (some ⟨b, o, none⟩)
def vF (g : FuncId) (caps : Array Value) : Value := .func (.func g) #[] caps
def vR (k : Nat) : Value := .slice (some ⟨k, 0, none⟩) 5 5

/-- the slots in the loop over the rules -/
def SL (s : ByteArray) (c q k kx p j : Nat) : List (Nat × Value) := [(23, vI j), (22, vI 5), (21, vR k), (8, vP kx 0), (7, vI p), (6, vR k), (0, .string s), (1, .chan (some c)), (2, .chan (some q))]
def xErr (p : Nat) : Obj := .cells #[vI 0, vI p, .string ⟨#[]⟩, vI 60] 93 (0, 0)
def xTok (kd p : Nat) (t : ByteArray) : Obj := .cells #[vI kd, vI p, .string t, vI 0] 93 (0, 0)

/-- a rule's round: it does not begin here -/
theorem mem_push_keep {O : Own} {w w' : World} {b : Nat} (hk : ∀ j, O j → j ≠ b → j < w.heap.size → w'.heap[j]? = w.heap[j]?) (hs : w.heap.size ≤ w'.heap.size) {O0 : Own} {w0 : World} (K : Kp O0 w0 O w) (hb : w0.heap.size ≤ b) : Kp O0 w0 O w' :=
  ⟨K.sub, K.new, fun j hj hlt => (hk j (K.sub j hj) (by omega) (Nat.lt_of_lt_of_le hlt K.size)).trans (K.keep j hj hlt), Nat.le_trans K.size hs⟩
end Go.Lift

namespace Go.Lift
open Go.Conc Go.Proofs

noncomputable def body39 : Code := match Tryz.f39.body with | some c => c | none => .skip
noncomputable def loop39 : Code := match body39 with | .scope (.seq _ (.seq _ (.seq _ (.seq _ (.block _ (.loop c)))))) => c | _ => .skip
noncomputable def rnd39 : Code := match loop39 with | .seq _ (.block _ (.seq _ (.seq (.seq _ (.block _ (.loop c))) _))) => c | _ => .skip

/-- what holds in the loop over the rules: the item's block is one's own, new, and holds this -/
structure IX (O0 : Own) (w0 : World) (kx : Nat) (obj : Obj) (O : Own) (w : World) : Prop where
  kp : Kp O0 w0 O w
  own : O kx
  new : w0.heap.size ≤ kx
  cell : w.heap[kx]? = some obj

theorem IX.step {O0 O O' : Own} {w0 w w' : World} {kx : Nat} {obj : Obj} (h : IX O0 w0 kx obj O w) (k : Kp O w O' w') : IX O0 w0 kx obj O' w' := ⟨h.kp.trans k, k.sub _ h.own, h.new, k.heap h.own h.cell⟩

set_option maxRecDepth 100000 in
set_option maxHeartbeats 1000000 in
theorem rule_round {ds : List Deferred} {s : ByteArray} {c q k kx p j kd len g0 g1 : Nat} {caps0 caps1 : Array Value} {cc : UInt8} {bq : Bool} {C : Array Value} {O0 O : Own} {w0 w : World} {a : Act} {fn0 fn1 : Func}
    (hs : s.size ≤ 20000) (hcc : s.data[p]? = some cc) (hj : j < 5) (hk : O0 k) (hrow : w0.heap[k]? = some (.cells C 146 (0, 0))) (hC0 : C[j * 3]? = some (vF g0 caps0)) (hC1 : C[j * 3 + 1]? = some (vF g1 caps1)) (hC2 : C[j * 3 + 2]? = some (vI kd))
    (f0 : Tryz.prog.funcs[g0]? = some fn0) (f0b : fn0.body.isNone = false) (f0n : (fn0.name == "runtime.NumGoroutine") = false) (f1 : Tryz.prog.funcs[g1]? = some fn1) (f1b : fn1.body.isNone = false) (f1n : (fn1.name == "runtime.NumGoroutine") = false)
    (hB : ∀ O' w', Kp O0 w0 O' w' → CallsO Tryz.prog false g0 (#[.int .u8 cc.toNat] ++ caps0) O' w' (Pure (.bool bq) O' w'))
    (hG : bq = true → p + len ≤ s.size ∧ ∀ O' w', Kp O0 w0 O' w' → CallsO Tryz.prog false g1 (#[.string (s.extract p s.size)] ++ caps1) O' w' (Pure (vI len) O' w'))
    (hX : IX O0 w0 kx (xErr p) O w) (hS : Sl (SL s c q k kx p j) 76 ds a) {Q : PostO}
    (hyes : bq = true → ∀ a' O' w', IX O0 w0 kx (xTok kd p (s.extract p (p + len))) O' w' → Sl (SL s c q k kx p j) 76 ds a' → Q (.exit 2) a' O' w')
    (hno : bq = false → ∀ a' O' w', IX O0 w0 kx (xErr p) O' w' → Sl (SL s c q k kx p (j + 1)) 76 ds a' → Q .normal a' O' w') : wpO Tryz.prog false 39 rnd39 Q a O w := by
  have hps : p < s.size := (Array.getElem?_eq_some_iff.1 hcc).1
  refine wpO_seq (wpO_region ?_)
  refine Yv.use hS rfl rfl rfl rfl (by decide) (yv_cmp rfl rfl rfl (congrArg some (decide_eq_true (by omega)))) fun a hS => opsO_nil ?_
  refine wpO_seq (wpO_condS hS rfl rfl (wpO_skip ?_))
  refine wpO_seq (wpO_block ?_)
  -- the rule
  refine wpO_seq (wpO_region ?_)
  refine Yv.use hS rfl rfl rfl rfl (by decide) (v := vP k (j * 3)) ?_ fun a hS => ?_
  · have e : vP k (j * 3) = .pointer (some ⟨k, 0 + j * 3, none⟩) := by rw [Nat.zero_add]; rfl
    rw [e]
    exact yv_iaddr rfl Tryz.underlying142 size146 rfl rfl hj
  have hkO := hX.kp.sub _ hk
  have hkr := hX.kp.heap hk hrow
  refine Yl.use hkO hkr hS rfl rfl rfl rfl (by decide) (v := .agg #[vF g0 caps0, vF g1 caps1, vI kd]) (yl_loadN (off := j * 3) (vs := [vF g0 caps0, vF g1 caps1, vI kd]) rfl agg146 size146 rfl rfl fun i v hi => ?_) fun a hS => ?_
  · match i, hi with
    | 0, hi => cases hi; exact hC0
    | 1, hi => cases hi; exact hC1
    | 2, hi => cases hi; exact hC2
  refine Yn.use hS rfl rfl rfl rfl (by decide) (yn_alloc rfl zero146) fun kr O1 w1 a q1 q2 q3 q4 q5 q6 q7 q8 hS => ?_
  have K1 : Kp O w O1 w1 := ⟨q5, q6, q7, q8⟩
  have hX1 := hX.step K1
  have hkx : kx < w.heap.size := (Array.getElem?_eq_some_iff.1 hX.cell).1
  refine Yw.use q1 q4 hS rfl rfl rfl rfl (obj' := .cells #[vF g0 caps0, vF g1 caps1, vI kd] 146 (0, 0)) (yw_store (off := 0) (vs := [vF g0 caps0, vF g1 caps1, vI kd]) rfl size146 rfl rfl rfl (by simp [vF, vI, Value.oneCell']) (Nat.le_of_ble_eq_true rfl)) fun w2 a g1' g2' g3' hS => opsO_nil ?_
  have hX2 : IX O0 w0 kx (xErr p) O1 w2 := ⟨mem_push_keep g2' g3' hX1.kp (by have := hX.kp.size; omega), hX1.own, hX1.new, (g2' kx hX1.own (by omega) (Array.getElem?_eq_some_iff.1 hX1.cell).1).trans hX1.cell⟩
  have K2 : Kp O0 w0 O1 w2 := hX2.kp
  -- does it begin here?
  refine wpO_seq (opsS_draw (m := 5) mixed hS [(27, vP kr 0), (28, vF g0 caps0), (29, .string s), (30, vI p), (31, .int .u8 cc.toNat)] ?_ (fun i hi => ?_) fun a hS => ?_)
  · kernel_rfl
  · match i, hi with
    | 0, _ => exact ⟨_, rfl, calm_yv rfl (by decide) rfl rfl rfl (fun w => ⟨by kernel_rfl, by kernel_rfl⟩)⟩
    | 1, _ => exact ⟨_, rfl, calm_yl q1 g1' rfl (by decide) rfl rfl rfl (yl_load1 (off := 0) rfl agg26 rfl rfl)⟩
    | 2, _ => exact ⟨_, rfl, calm_yv rfl (by decide) rfl rfl rfl (yv_move (.inl rfl) rfl)⟩
    | 3, _ => exact ⟨_, rfl, calm_yv rfl (by decide) rfl rfl rfl (yv_move (.inl rfl) rfl)⟩
    | 4, _ => exact ⟨_, rfl, calm_yv rfl (by decide) rfl rfl rfl (yv_index rfl Tryz.underlying9 rfl rfl hcc)⟩
    | i + 5, hi => omega
  refine opsS_call hS rfl rfl rfl rfl (by decide) (yc (args := #[.int .u8 cc.toNat]) (caps := caps0) f0 f0b f0n rfl rfl rfl rfl) (hB O1 w2 K2) fun v O' w' a hR hS => opsO_nil ?_
  obtain ⟨rfl, rfl, rfl⟩ := hR
  cases bq with
  | false =>
    refine wpO_condS hS rfl rfl (wpO_skip ?_)
    -- on
    refine wpO_region ?_
    refine Yv.use hS rfl rfl rfl rfl (by decide) (yv_add (r := ((j + 1 : Nat) : Int)) rfl rfl rfl (by rw [IntKind.wrap_i64]; omega)) fun a hS => ?_
    refine Yv.use hS rfl rfl rfl rfl (by decide) (yv_move (v := vI (j + 1)) (.inl rfl) rfl) fun a hS => opsO_nil ?_
    refine hno rfl a _ _ hX2 (hS.cut ⟨rfl, rfl, rfl, rfl, rfl, rfl, rfl, rfl, rfl, trivial⟩)
  | true =>
    obtain ⟨hle, hG⟩ := hG rfl
    refine wpO_condS hS rfl rfl ?_
    refine wpO_seq (opsS_draw (m := 5) mixed hS [(33, vP kr 1), (34, vF g1 caps1), (35, .string s), (36, vI p), (37, .string (s.extract p s.size))] ?_ (fun i hi => ?_) fun a hS => ?_)
    · kernel_rfl
    · match i, hi with
      | 0, _ => exact ⟨_, rfl, calm_yv rfl (by decide) rfl rfl rfl (fun w => ⟨by kernel_rfl, by kernel_rfl⟩)⟩
      | 1, _ => exact ⟨_, rfl, calm_yl q1 g1' rfl (by decide) rfl rfl rfl (yl_load1 (off := 1) rfl agg144 rfl rfl)⟩
      | 2, _ => exact ⟨_, rfl, calm_yv rfl (by decide) rfl rfl rfl (yv_move (.inl rfl) rfl)⟩
      | 3, _ => exact ⟨_, rfl, calm_yv rfl (by decide) rfl rfl rfl (yv_move (.inl rfl) rfl)⟩
      | 4, _ => exact ⟨_, rfl, calm_yv rfl (by decide) rfl rfl rfl (yv_slice rfl Tryz.underlying9 rfl rfl (.inl ⟨rfl, rfl⟩) (by omega) (Nat.le_refl _))⟩
      | i + 5, hi => omega
    refine opsS_call hS rfl rfl rfl rfl (by decide) (yc (args := #[.string (s.extract p s.size)]) (caps := caps1) f1 f1b f1n rfl rfl rfl rfl) (hG _ _ K2) fun v O' w' a hR hS => ?_
    obtain ⟨rfl, rfl, rfl⟩ := hR
    refine Yv.use hS rfl rfl rfl rfl (by decide) (yv_move (v := vI len) (.inr rfl) rfl) fun a hS => opsO_nil ?_
    refine wpO_seq (opsS_draw (m := 11) mixed hS [(39, vP kr 2), (40, vI kd), (41, vI p), (42, .string s), (43, vI p), (44, vI p), (45, vI len), (46, vI (p + len)), (47, .string (s.extract p (p + len))), (48, .agg #[vI kd, vI p, .string (s.extract p (p + len))]), (49, .agg #[vI kd, vI p, .string (s.extract p (p + len)), vI 0])] ?_ (fun i hi => ?_) fun a hS => ?_)
    · kernel_rfl
    · match i, hi with
      | 0, _ => exact ⟨_, rfl, calm_yv rfl (by decide) rfl rfl rfl (fun w => ⟨by kernel_rfl, by kernel_rfl⟩)⟩
      | 1, _ => exact ⟨_, rfl, calm_yl q1 g1' rfl (by decide) rfl rfl rfl (yl_load1 (off := 2) rfl agg3 rfl rfl)⟩
      | 2, _ => exact ⟨_, rfl, calm_yv rfl (by decide) rfl rfl rfl (yv_move (.inl rfl) rfl)⟩
      | 3, _ => exact ⟨_, rfl, calm_yv rfl (by decide) rfl rfl rfl (yv_move (.inl rfl) rfl)⟩
      | 4, _ => exact ⟨_, rfl, calm_yv rfl (by decide) rfl rfl rfl (yv_move (.inl rfl) rfl)⟩
      | 5, _ => exact ⟨_, rfl, calm_yv rfl (by decide) rfl rfl rfl (yv_move (.inl rfl) rfl)⟩
      | 6, _ => exact ⟨_, rfl, calm_yv rfl (by decide) rfl rfl rfl (yv_move (.inl rfl) rfl)⟩
      | 7, _ => exact ⟨_, rfl, calm_yv rfl (by decide) rfl rfl rfl (yv_add (r := ((p + len : Nat) : Int)) rfl rfl rfl (by rw [IntKind.wrap_i64]; omega))⟩
      | 8, _ => exact ⟨_, rfl, calm_yv rfl (by decide) rfl rfl rfl (yv_slice rfl Tryz.underlying9 rfl rfl (.inr ⟨_, rfl, rfl⟩) (by omega) hle)⟩
      | 9, _ => exact ⟨_, rfl, calm_yv rfl (by decide) rfl rfl rfl (fun w => ⟨by kernel_rfl, by kernel_rfl⟩)⟩
      | 10, _ => exact ⟨_, rfl, calm_yv rfl (by decide) rfl rfl rfl (fun w => ⟨by kernel_rfl, by kernel_rfl⟩)⟩
      | i + 11, hi => omega
    refine Yw.use hX2.own hX2.cell hS rfl rfl rfl rfl (obj' := xTok kd p (s.extract p (p + len))) (yw_store (off := 0) (vs := [vI kd, vI p, .string (s.extract p (p + len)), vI 0]) rfl size93 rfl rfl rfl (by simp [vI, Value.oneCell']) (Nat.le_of_ble_eq_true rfl)) fun w3 a g4 g5 g6 hS => opsO_nil ?_
    refine wpO_exit ?_
    refine hyes rfl a _ _ ⟨mem_push_keep g5 g6 hX2.kp hX2.new, hX2.own, hX2.new, g4⟩ (hS.cut ⟨rfl, rfl, rfl, rfl, rfl, rfl, rfl, rfl, rfl, trivial⟩)
end Go.Lift

namespace Go.Lift
open Go.Conc Go.Proofs

theorem tk_le (p : Nat → Bool) : ∀ l : List Nat, (Ai.tk p l).length ≤ l.length
  | [] => Nat.le_refl _
  | c :: r => by
    have := tk_le p r
    simp only [Ai.tk]
    cases p c <;> simp <;> omega
theorem byt_extract (s : ByteArray) (i j : Nat) (h : j ≤ s.size) : byt (s.extract i j) = ((byt s).drop i).take (j - i) := by
  unfold byt
  rw [ByteArray.data_extract]
  rw [Array.toList_extract, List.map_take, List.map_drop]
theorem byt_from (s : ByteArray) (i : Nat) : byt (s.extract i s.size) = (byt s).drop i := by
  rw [byt_extract s i s.size (Nat.le_refl _), List.take_of_length_le]
  simp [byt_len]

theorem isB_c : ∀ c : Nat, c < 256 → decide (Lib.indexByte bB.data.toList (Int.toNat (c : Int)).toUInt8 ≥ 0) = Ai.isB c := by decide +kernel
theorem isO_c : ∀ c : Nat, c < 256 → decide (Lib.indexByte bO.data.toList (Int.toNat (c : Int)).toUInt8 ≥ 0) = Nat.beq c 40 := by decide +kernel
theorem isC_c : ∀ c : Nat, c < 256 → decide (Lib.indexByte bC.data.toList (Int.toNat (c : Int)).toUInt8 ≥ 0) = Nat.beq c 41 := by decide +kernel

/-- the rule of a byte, the kind, and how far it goes -/
def Cls (c : Nat) (r : List Nat) (jc kd len : Nat) : Prop :=
  (jc = 0 ∧ kd = 1 ∧ Ai.isW c = true ∧ len = (Ai.tk Ai.isW r).length) ∨ (jc = 1 ∧ kd = 0 ∧ Ai.isW c = false ∧ Ai.isB c = true ∧ len = (Ai.tk Ai.isB r).length) ∨
  (jc = 2 ∧ kd = 2 ∧ Ai.isW c = false ∧ Ai.isB c = false ∧ Nat.beq c 40 = true ∧ len = 1) ∨ (jc = 3 ∧ kd = 3 ∧ Ai.isW c = false ∧ Ai.isB c = false ∧ Nat.beq c 40 = false ∧ Nat.beq c 41 = true ∧ len = 1)

def LI (O0 : Own) (w0 : World) (s : ByteArray) (c q k kx p jc : Nat) (ds : List Deferred) (m : Nat) (a : Act) (O : Own) (w : World) : Prop :=
  ∃ j, j ≤ jc ∧ m = 5 - j ∧ IX O0 w0 kx (xErr p) O w ∧ Sl (SL s c q k kx p j) 76 ds a

/-- the slots behind the loop over the rules -/
def SM (s : ByteArray) (c q k kx p : Nat) : List (Nat × Value) := [(8, vP kx 0), (7, vI p), (6, vR k), (0, .string s), (1, .chan (some c)), (2, .chan (some q))]

set_option maxRecDepth 100000 in
set_option maxHeartbeats 1000000 in
theorem rules_loop {ds : List Deferred} {s : ByteArray} {c q k kx p jc kd len b1 b2 b3 b4 b5 : Nat} {cc : UInt8} {O0 O : Own} {w0 w : World} {a : Act}
    (hs : s.size ≤ 20000) (hcc : s.data[p]? = some cc) (hcl : Cls cc.toNat ((byt s).drop p) jc kd len) (hR : RulesAt k b1 b2 b3 b4 b5 O0 w0)
    (hX : IX O0 w0 kx (xErr p) O w) (hS : Sl (SL s c q k kx p 0) 76 ds a) {Q : PostO}
    (hq : ∀ a' O' w', p + len ≤ s.size → IX O0 w0 kx (xTok kd p (s.extract p (p + len))) O' w' → Sl (SM s c q k kx p) 76 ds a' → Q .normal a' O' w') : wpO Tryz.prog false 39 (.block 2 (.loop rnd39)) Q a O w := by
  have hps : p < s.size := (Array.getElem?_eq_some_iff.1 hcc).1
  have hc256 : cc.toNat < 256 := cc.toNat_lt
  obtain ⟨x, y, hk, hrow⟩ := hR.row
  have hsub : (s.extract p s.size).size ≤ 20000 := by rw [ByteArray.size_extract]; omega
  have hw : ∀ (pr : Nat → Bool) , p + (Ai.tk pr ((byt s).drop p)).length ≤ s.size := fun pr => by
    have := tk_le pr ((byt s).drop p)
    rw [List.length_drop, byt_len] at this
    omega
  -- the closures
  have cW : ∀ O' w', Kp O0 w0 O' w' → ∀ c : Nat, c < 256 → CallsO Tryz.prog false 116 (#[.int .u8 c] ++ #[]) O' w' (Pure (.bool (Ai.isW c)) O' w') := fun O' w' K c hc => by
    rw [Array.append_empty]; exact word_c c hc O' w'
  have cB : ∀ O' w', Kp O0 w0 O' w' → ∀ c : Nat, c < 256 → CallsO Tryz.prog false 192 (#[.int .u8 c] ++ #[vP b2 0]) O' w' (Pure (.bool (Ai.isB c)) O' w') := fun O' w' K c hc =>
    is_c bB Ai.isB isB_c c hc b2 O' w' (K.sub _ hR.r2.1) (K.heap hR.r2.1 hR.r2.2)
  refine wpO_block (wpO_loop (LI O0 w0 s c q k kx p jc ds) 5 ⟨0, Nat.zero_le _, rfl, hX, hS⟩ ?_)
  rintro m a O w ⟨j, hj, rfl, hX, hS⟩
  have yes : ∀ a' O' w', p + len ≤ s.size → IX O0 w0 kx (xTok kd p (s.extract p (p + len))) O' w' → Sl (SL s c q k kx p j) 76 ds a' → thenO (fun a' O' w' => ∃ m, m < 5 - j ∧ LI O0 w0 s c q k kx p jc ds m a' O' w') (blockO 2 Q) (.exit 2) a' O' w' := fun a' O' w' h1 h2 h3 => by
    simp only [thenO, blockO, if_true]
    exact hq a' O' w' h1 h2 (h3.cut ⟨rfl, rfl, rfl, rfl, rfl, rfl, trivial⟩)
  have no : j < jc → j < 5 → ∀ a' O' w', IX O0 w0 kx (xErr p) O' w' → Sl (SL s c q k kx p (j + 1)) 76 ds a' → thenO (fun a' O' w' => ∃ m, m < 5 - j ∧ LI O0 w0 s c q k kx p jc ds m a' O' w') (blockO 2 Q) .normal a' O' w' := fun h1 h5 a' O' w' h2 h3 =>
    ⟨5 - (j + 1), by omega, j + 1, h1, rfl, h2, h3⟩
  rcases hcl with ⟨rfl, rfl, e1, rfl⟩ | ⟨rfl, rfl, e1, e2, rfl⟩ | ⟨rfl, rfl, e1, e2, e3, rfl⟩ | ⟨rfl, rfl, e1, e2, e3, e4, rfl⟩
  all_goals
    match j, hj, hS, yes, no with
    | 0, hj, hS, yes, no =>
      refine rule_round (bq := Ai.isW cc.toNat) (kd := 1) (len := (Ai.tk Ai.isW ((byt s).drop p)).length) hs hcc (by omega) hk hrow (g0 := 116) (caps0 := #[]) (g1 := 194) (caps1 := #[vP b1 0]) rfl rfl rfl Tryz.func116 rfl (by rfl) Tryz.func194 rfl (by rfl)
        (fun O' w' K => cW O' w' K _ hc256) (fun _ => ⟨hw _, fun O' w' K => ?_⟩) hX hS (fun hb a' O' w' h2 h3 => ?_) (fun hb a' O' w' h2 h3 => ?_)
      · have := while_c (s.extract p s.size) hsub Ai.isW b1 116 #[] O' w' (K.sub _ hR.r1.1) (K.heap hR.r1.1 hR.r1.2) Tryz.func116 rfl (by rfl) (cW O' w' K)
        rw [byt_from] at this
        exact this
      · first
          | exact yes a' O' w' (hw _) h2 h3
          | (rw [e1] at hb; exact Bool.noConfusion hb)
      · first
          | (rw [e1] at hb; exact Bool.noConfusion hb)
          | exact no (by omega) (by omega) a' O' w' h2 h3
    | 1, hj, hS, yes, no =>
      first
      | (exfalso; omega)
      | (refine rule_round (bq := Ai.isB cc.toNat) (kd := 0) (len := (Ai.tk Ai.isB ((byt s).drop p)).length) hs hcc (by omega) hk hrow (g0 := 192) (caps0 := #[vP b2 0]) (g1 := 194) (caps1 := #[vP b3 0]) rfl rfl rfl Tryz.func192 rfl (by rfl) Tryz.func194 rfl (by rfl)
          (fun O' w' K => cB O' w' K _ hc256) (fun _ => ⟨hw _, fun O' w' K => ?_⟩) hX hS (fun hb a' O' w' h2 h3 => ?_) (fun hb a' O' w' h2 h3 => ?_)
         · have := while_c (s.extract p s.size) hsub Ai.isB b3 192 #[vP b2 0] O' w' (K.sub _ hR.r3.1) (K.heap hR.r3.1 hR.r3.2) Tryz.func192 rfl (by rfl) (cB O' w' K)
           rw [byt_from] at this
           exact this
         · first
             | exact yes a' O' w' (hw _) h2 h3
             | (rw [e2] at hb; exact Bool.noConfusion hb)
         · first
             | (rw [e2] at hb; exact Bool.noConfusion hb)
             | exact no (by omega) (by omega) a' O' w' h2 h3)
    | 2, hj, hS, yes, no =>
      first
      | (exfalso; omega)
      | (refine rule_round (bq := Nat.beq cc.toNat 40) (kd := 2) (len := 1) hs hcc (by omega) hk hrow (g0 := 192) (caps0 := #[vP b4 0]) (g1 := 118) (caps1 := #[]) rfl rfl rfl Tryz.func192 rfl (by rfl) Tryz.func118 rfl (by rfl)
          (fun O' w' K => is_c bO _ isO_c _ hc256 b4 O' w' (K.sub _ hR.r4.1) (K.heap hR.r4.1 hR.r4.2)) (fun _ => ⟨hps, fun O' w' K => ?_⟩) hX hS (fun hb a' O' w' h2 h3 => ?_) (fun hb a' O' w' h2 h3 => ?_)
         · rw [Array.append_empty]; exact one_c _ O' w'
         · first
             | exact yes a' O' w' hps h2 h3
             | (rw [e3] at hb; exact Bool.noConfusion hb)
         · first
             | (rw [e3] at hb; exact Bool.noConfusion hb)
             | exact no (by omega) (by omega) a' O' w' h2 h3)
    | 3, hj, hS, yes, no =>
      first
      | (exfalso; omega)
      | (refine rule_round (bq := Nat.beq cc.toNat 41) (kd := 3) (len := 1) hs hcc (by omega) hk hrow (g0 := 192) (caps0 := #[vP b5 0]) (g1 := 118) (caps1 := #[]) rfl rfl rfl Tryz.func192 rfl (by rfl) Tryz.func118 rfl (by rfl)
          (fun O' w' K => is_c bC _ isC_c _ hc256 b5 O' w' (K.sub _ hR.r5.1) (K.heap hR.r5.1 hR.r5.2)) (fun _ => ⟨hps, fun O' w' K => ?_⟩) hX hS (fun hb a' O' w' h2 h3 => ?_) (fun hb a' O' w' h2 h3 => ?_)
         · rw [Array.append_empty]; exact one_c _ O' w'
         · first
             | exact yes a' O' w' hps h2 h3
             | (rw [e4] at hb; exact Bool.noConfusion hb)
         · first
             | (rw [e4] at hb; exact Bool.noConfusion hb)
             | exact no (by omega) (by omega) a' O' w' h2 h3)
    | j + 4, hj, hS, yes, no => exfalso; omega
end Go.Lift
