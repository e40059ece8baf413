/- A part of the proof that the abstract interpreter is sound, and of the two goroutines of the lexer. -/
import Derived.Test.YticjebnbcnphkaaGreatDoorZF12
import Derived.Test.YticjebnbcnphkaaGreatDoorProg

set_option linter.unusedSimpArgs false
set_option linter.unusedVariables false
set_option linter.unusedSectionVars false

namespace Go.Ai
open Go Go.Proofs.Tryz
variable {G : Goal prog}

theorem tp48 : prog.funcs[48]? = some f48 := by kernel_rfl
theorem tp80 : prog.funcs[80]? = some f80 := by kernel_rfl
theorem tp_z34 : zeroV prog 34 = some (.nat .i64 0) := by kernel_rfl
theorem tp_s34 : size prog 34 = some 1 := by kernel_rfl
theorem tp_a34 : isAgg prog 34 = some false := by kernel_rfl
theorem tp_s166 : size prog 166 = some 1 := by kernel_rfl
theorem tp_f166 : ∃ fd, fieldOf prog 166 0 = some fd ∧ fd.type = 34 ∧ fd.offset = 0 := by
  have h : ((fieldOf prog 166 0).map fun f => (f.type, f.offset)) = some (34, 0) := by kernel_rfl
  cases hf : fieldOf prog 166 0 with
  | none => rw [hf] at h; cases h
  | some fd => rw [hf] at h; simp at h; exact ⟨fd, rfl, h⟩
theorem tp_z166 : ∃ z, zeroC prog 166 = some z := Option.isSome_iff_exists.1 (by kernel_rfl)
def ifaceB (d : Option TypeDesc) : Bool := match d with | some (.interface _) => true | _ => false
def structB (d : Option TypeDesc) : Bool := match d with | some (.struct _) => true | _ => false
theorem tp_20 : ∃ ms, prog.underlying 20 = some (.interface ms) := by
  have h : ifaceB (prog.underlying 20) = true := by kernel_rfl
  unfold ifaceB at h
  split at h
  · rename_i ms hm; exact ⟨ms, hm⟩
  · cases h
theorem tp_166 : ∃ d, prog.underlying 166 = some d ∧ ∀ ms, d ≠ .interface ms := by
  have h : structB (prog.underlying 166) = true := by kernel_rfl
  unfold structB at h
  split at h
  · rename_i fs hm; exact ⟨_, hm, fun ms h => by cases h⟩
  · cases h
theorem res80 (t : Array Value) (w : World) : (results f80 t).run prog w = .ok (.tuple #[]) w := by
  have := results_eq (P := prog) f80 t w (ys := []) rfl
  simpa using this

def b80 : Frame := { (default : Frame) with fn := 80, kind := .deferred }
theorem enter80 (p : Value) : ∃ c, f80.body = some c ∧ Frame.enter prog 80 #[p] .deferred = onF b80 #[p, undef, undef, undef, undef, undef, undef, undef, undef, undef, undef, undef, undef, undef, undef, undef, undef] [.code c] [] := by
  refine ⟨_, rfl, ?_⟩
  simp only [Frame.enter, tp80]
  rfl

theorem clo_none {p : Value} {c : Frame} {cs : List Frame} {w : World} {ph : Nat} (hm : c.mode = .returning) (h : G.ok ph (lone c cs w)) : G.ok ph (lone (Frame.enter prog 80 #[p] .deferred) (c :: cs) w) := by
  obtain ⟨ms, h20⟩ := tp_20
  obtain ⟨cd, hcd, he⟩ := enter80 p
  rw [he]
  cases hcd
  refine G.back st_seq ?_
  refine G.back st_region ?_
  refine G.back (st_recover_none (i := 0) (rest := [1]) rfl rfl rfl rfl hm (x_recover rfl rfl)) ?_
  refine G.back (st_op_value (i := 1) (rest := []) rfl (fun c h => by cases h) rfl (x_move (.inr rfl))) ?_
  refine G.back st_region_end ?_
  refine G.back st_seq ?_
  refine G.back st_region ?_
  refine G.back (st_op_value (i := 0) (rest := [1]) rfl (fun c h => by cases h) rfl (x_move (.inl rfl))) ?_
  refine G.back (st_op_value (i := 1) (rest := []) rfl (fun c h => by cases h) rfl ((x_neq rfl h20 rfl).1 rfl)) ?_
  refine G.back st_region_end ?_
  refine G.back (st_cond (q := false) rfl) ?_
  refine G.back st_skip ?_
  refine G.back (st_end rfl) ?_
  exact G.back (st_return_def rfl tp80 (res80 _ _) hm) h

theorem one_cells {y : Value} (h : y.oneCell' = true) : y.cells = #[y] := by
  cases y <;> first | rfl | (cases h)

theorem clo_some {eb : Nat} {v1 c0 y : Value} {c : Frame} {cs : List Frame} {w : World} (hm : c.mode = .panicking (PE (.iface 166 v1))) (hv : v1.cells = #[y]) (hy : y.oneCell' = true) (hc : w.heap[eb]? = some (.cells #[c0] 34 (0, 0))) :
    ∃ w', w'.heap[eb]? = some (.cells #[y] 34 (0, 0)) ∧ (∀ k, k < w.heap.size → k ≠ eb → w'.heap[k]? = w.heap[k]?) ∧ w.heap.size ≤ w'.heap.size ∧ (w'.os = w.os ∧ w'.output = w.output) ∧
      ∀ ph, G.ok ph (lone { c with mode := .returning } cs w') → G.ok ph (lone (Frame.enter prog 80 #[.pointer (some ⟨eb, 0, none⟩)] .deferred) (c :: cs) w) := by
  obtain ⟨ms, h20⟩ := tp_20
  obtain ⟨d, h166, hd⟩ := tp_166
  obtain ⟨fd, hfd, hft, hfo⟩ := tp_f166
  obtain ⟨z, hz⟩ := tp_z166
  obtain ⟨zv, hz1, hz2, hz3, hz4⟩ := zeroC_t hz
  have hz1s : zv.cells.size = 1 := by
    have := (hz4 ⟨fun _ => .pend, fun _ => none⟩).length
    rw [tp_s166] at hz2
    have h1 := Option.some.inj hz2
    simpa [← h1] using this.symm
  obtain ⟨z0, hz0⟩ : ∃ z0, zv.cells = #[z0] := Array.size_eq_one_iff.1 hz1s
  have hlt : eb < w.heap.size := (Array.getElem?_eq_some_iff.1 hc).1
  let w1 : World := { w with heap := w.heap.push (.cells zv.cells 166) }
  have hw1 : w1.heap[w.heap.size]? = some (.cells #[z0] 166 (0, 0)) := by simp [w1, hz0]
  obtain ⟨a1, a2, a3⟩ := set_cell (y := y) hw1
  let w2 : World := w1.setCell ⟨w.heap.size, 0, none⟩ y
  have hne : eb ≠ w.heap.size := Nat.ne_of_lt hlt
  have hw2 : w2.heap[eb]? = some (.cells #[c0] 34 (0, 0)) := by
    rw [a2 eb hne]
    simp [w1, Array.getElem?_push, hne, hc]
  obtain ⟨b1, b2, b3⟩ := set_cell (y := y) hw2
  refine ⟨w2.setCell ⟨eb, 0, none⟩ y, b1, fun k hk hke => ?_, ?_, ⟨rfl, rfl⟩, fun ph h => ?_⟩
  · rw [b2 k hke, a2 k (Nat.ne_of_lt hk)]
    simp [w1, Array.getElem?_push, Nat.ne_of_lt hk]
  · rw [b3, a3]; simp [w1]
  obtain ⟨cd, hcd, he⟩ := enter80 (.pointer (some ⟨eb, 0, none⟩))
  rw [he]
  cases hcd
  refine G.back st_seq ?_
  refine G.back st_region ?_
  refine G.back (st_recover_some (i := 0) (rest := [1]) rfl rfl rfl rfl hm (x_recover rfl rfl)) ?_
  change G.ok ph (lone (onF b80 #[(.pointer (some ⟨eb, 0, none⟩)), undef, undef, undef, (.iface 166 v1), undef, undef, undef, undef, undef, undef, undef, undef, undef, undef, undef, undef] _ _) _ _)
  refine G.back (st_opv (t' := #[(.pointer (some ⟨eb, 0, none⟩)), (.iface 166 v1), undef, undef, (.iface 166 v1), undef, undef, undef, undef, undef, undef, undef, undef, undef, undef, undef, undef]) (i := 1) (rest := []) rfl (fun c h => by cases h) rfl (x_move (.inr rfl)) rfl) ?_
  refine G.back st_region_end ?_
  refine G.back st_seq ?_
  refine G.back st_region ?_
  refine G.back (st_opv (t' := #[(.pointer (some ⟨eb, 0, none⟩)), (.iface 166 v1), undef, undef, (.iface 166 v1), (.iface 166 v1), undef, undef, undef, undef, undef, undef, undef, undef, undef, undef, undef]) (i := 0) (rest := [1]) rfl (fun c h => by cases h) rfl (x_move (.inl rfl)) rfl) ?_
  refine G.back (st_opv (t' := #[(.pointer (some ⟨eb, 0, none⟩)), (.iface 166 v1), undef, undef, (.iface 166 v1), (.iface 166 v1), (.bool true), undef, undef, undef, undef, undef, undef, undef, undef, undef, undef]) (i := 1) (rest := []) rfl (fun c h => by cases h) rfl ((x_neq rfl h20 rfl).2 166 v1 rfl) rfl) ?_
  refine G.back st_region_end ?_
  refine G.back (st_cond (q := true) rfl) ?_
  refine G.back st_seq ?_
  refine G.back st_region ?_
  refine G.back (st_opv (t' := #[(.pointer (some ⟨eb, 0, none⟩)), (.iface 166 v1), undef, undef, (.iface 166 v1), (.iface 166 v1), (.bool true), undef, (.iface 166 v1), undef, undef, undef, undef, undef, undef, undef, undef]) (i := 0) (rest := [1, 2, 3, 4, 5, 6, 7]) rfl (fun c h => by cases h) rfl (x_move (.inl rfl)) rfl) ?_
  refine G.back (st_opv (t' := #[(.pointer (some ⟨eb, 0, none⟩)), (.iface 166 v1), undef, undef, (.iface 166 v1), (.iface 166 v1), (.bool true), undef, (.iface 166 v1), (.tuple #[v1, .bool true]), undef, undef, undef, undef, undef, undef, undef]) (i := 1) (rest := [2, 3, 4, 5, 6, 7]) rfl (fun c h => by cases h) rfl (x_assert rfl h166 hd rfl) rfl) ?_
  refine G.back (st_opv (t' := #[(.pointer (some ⟨eb, 0, none⟩)), (.iface 166 v1), undef, undef, (.iface 166 v1), (.iface 166 v1), (.bool true), (.tuple #[v1, .bool true]), (.iface 166 v1), (.tuple #[v1, .bool true]), undef, undef, undef, undef, undef, undef, undef]) (i := 2) (rest := [3, 4, 5, 6, 7]) rfl (fun c h => by cases h) rfl (x_move (.inl rfl)) rfl) ?_
  refine G.back (st_opv (t' := #[(.pointer (some ⟨eb, 0, none⟩)), (.iface 166 v1), undef, undef, (.iface 166 v1), (.iface 166 v1), (.bool true), (.tuple #[v1, .bool true]), (.iface 166 v1), (.tuple #[v1, .bool true]), v1, undef, undef, undef, undef, undef, undef]) (i := 3) (rest := [4, 5, 6, 7]) rfl (fun c h => by cases h) rfl (x_extract (vs := #[v1, .bool true]) rfl rfl rfl) rfl) ?_
  refine G.back (st_opv (t' := #[(.pointer (some ⟨eb, 0, none⟩)), (.iface 166 v1), undef, undef, (.iface 166 v1), (.iface 166 v1), (.bool true), (.tuple #[v1, .bool true]), (.iface 166 v1), (.tuple #[v1, .bool true]), v1, (.bool true), undef, undef, undef, undef, undef]) (i := 4) (rest := [5, 6, 7]) rfl (fun c h => by cases h) rfl (x_extract (vs := #[v1, .bool true]) rfl rfl rfl) rfl) ?_
  refine G.back (st_opv (t' := #[(.pointer (some ⟨eb, 0, none⟩)), (.iface 166 v1), (.pointer (some ⟨w.heap.size, 0, none⟩)), undef, (.iface 166 v1), (.iface 166 v1), (.bool true), (.tuple #[v1, .bool true]), (.iface 166 v1), (.tuple #[v1, .bool true]), v1, (.bool true), undef, undef, undef, undef, undef]) (i := 5) (rest := [6, 7]) rfl (fun c h => by cases h) rfl (x_alloc rfl hz1) rfl) ?_
  refine G.back (st_opu (t' := #[(.pointer (some ⟨eb, 0, none⟩)), (.iface 166 v1), (.pointer (some ⟨w.heap.size, 0, none⟩)), undef, (.iface 166 v1), (.iface 166 v1), (.bool true), (.tuple #[v1, .bool true]), (.iface 166 v1), (.tuple #[v1, .bool true]), v1, (.bool true), undef, undef, undef, undef, undef]) (i := 6) (rest := [7]) rfl (fun c h => by cases h) rfl (x_store1 (a := .tmp 2) (x := .tmp 10) (w := w1) rfl tp_s166 rfl hv hy hw1) rfl) ?_
  refine G.back (st_opv (t' := #[(.pointer (some ⟨eb, 0, none⟩)), (.iface 166 v1), (.pointer (some ⟨w.heap.size, 0, none⟩)), (.bool true), (.iface 166 v1), (.iface 166 v1), (.bool true), (.tuple #[v1, .bool true]), (.iface 166 v1), (.tuple #[v1, .bool true]), v1, (.bool true), undef, undef, undef, undef, undef]) (i := 7) (rest := []) rfl (fun c h => by cases h) rfl (x_move (.inr rfl)) rfl) ?_
  refine G.back st_region_end ?_
  refine G.back st_seq ?_
  refine G.back st_seq ?_
  refine G.back st_region ?_
  refine G.back (st_opv (t' := #[(.pointer (some ⟨eb, 0, none⟩)), (.iface 166 v1), (.pointer (some ⟨w.heap.size, 0, none⟩)), (.bool true), (.iface 166 v1), (.iface 166 v1), (.bool true), (.tuple #[v1, .bool true]), (.iface 166 v1), (.tuple #[v1, .bool true]), v1, (.bool true), (.bool true), undef, undef, undef, undef]) (i := 0) (rest := [1]) rfl (fun c h => by cases h) rfl (x_move (.inl rfl)) rfl) ?_
  refine G.back (st_opv (t' := #[(.pointer (some ⟨eb, 0, none⟩)), (.iface 166 v1), (.pointer (some ⟨w.heap.size, 0, none⟩)), (.bool true), (.iface 166 v1), (.iface 166 v1), (.bool true), (.tuple #[v1, .bool true]), (.iface 166 v1), (.tuple #[v1, .bool true]), v1, (.bool true), (.bool true), (.bool false), undef, undef, undef]) (i := 1) (rest := []) rfl (fun c h => by cases h) rfl (x_not (b := true) rfl rfl) rfl) ?_
  refine G.back st_region_end ?_
  refine G.back (st_cond (q := false) rfl) ?_
  refine G.back st_skip ?_
  refine G.back st_region ?_
  refine G.back (st_opv (t' := #[(.pointer (some ⟨eb, 0, none⟩)), (.iface 166 v1), (.pointer (some ⟨w.heap.size, 0, none⟩)), (.bool true), (.iface 166 v1), (.iface 166 v1), (.bool true), (.tuple #[v1, .bool true]), (.iface 166 v1), (.tuple #[v1, .bool true]), v1, (.bool true), (.bool true), (.bool false), undef, (.pointer (some ⟨w.heap.size, 0, none⟩)), undef]) (i := 0) (rest := [1, 2]) rfl (fun c h => by cases h) rfl (x_fieldAddr (cb := w.heap.size) rfl hfd hfo (by rw [hft]; exact tp_s34) rfl) rfl) ?_
  refine G.back (st_opv (t' := #[(.pointer (some ⟨eb, 0, none⟩)), (.iface 166 v1), (.pointer (some ⟨w.heap.size, 0, none⟩)), (.bool true), (.iface 166 v1), (.iface 166 v1), (.bool true), (.tuple #[v1, .bool true]), (.iface 166 v1), (.tuple #[v1, .bool true]), v1, (.bool true), (.bool true), (.bool false), undef, (.pointer (some ⟨w.heap.size, 0, none⟩)), y]) (i := 1) (rest := [2]) rfl (fun c h => by cases h) rfl (x_load (y := y) (cb := w.heap.size) rfl tp_a34 rfl a1) rfl) ?_
  refine G.back (st_opu (t' := #[(.pointer (some ⟨eb, 0, none⟩)), (.iface 166 v1), (.pointer (some ⟨w.heap.size, 0, none⟩)), (.bool true), (.iface 166 v1), (.iface 166 v1), (.bool true), (.tuple #[v1, .bool true]), (.iface 166 v1), (.tuple #[v1, .bool true]), v1, (.bool true), (.bool true), (.bool false), undef, (.pointer (some ⟨w.heap.size, 0, none⟩)), y]) (i := 2) (rest := []) rfl (fun c h => by cases h) rfl (x_store1 (a := .tmp 0) (x := .tmp 16) (y := y) (cb := eb) (w := w2) rfl tp_s34 rfl (one_cells hy) hy hw2) rfl) ?_
  refine G.back st_region_end ?_
  refine G.back (st_end rfl) ?_
  exact G.back (st_return_rec rfl tp80 (res80 _ _) rfl) h
end Go.Ai

namespace Go.Ai
open Go Go.Proofs.Tryz

section gen
variable {P : Program}
theorem Rel.priv {σ : Sub} {A : AH} {w w2 : World} (hA : Rel σ A w) {r : Nat} (hr : ∀ b base sz, σ b ≠ .at r base sz) (hk : ∀ k, k < w.heap.size → k ≠ r → w2.heap[k]? = w.heap[k]?) (hs : w.heap.size ≤ w2.heap.size) : Rel σ A w2 :=
  ⟨hA.fresh, fun z o hz => by
    rcases hA.obj z o hz with h1 | h1 | ⟨c, bs, s, h1, h2⟩
    · exact .inl h1
    · exact .inr (.inl h1)
    · exact .inr (.inr ⟨c, bs, s, h1, h2.keep (Sub.le.refl _) (hk c (hA.low z c bs s h1) (fun e => hr z bs s (e ▸ h1))) hs⟩), hA.inj, hA.glob, fun z c base s h => Nat.lt_of_lt_of_le (hA.low z c base s h) hs, hA.four, fun k hk' => hA.tops k (Nat.le_trans hs hk'), hA.len, hA.high, hA.roms⟩
theorem Ext.priv {σ σ' : Sub} {A A' : AH} {w w' w2 : World} (hX : Ext σ A w σ' A' w') {r : Nat} (hr : w.heap.size ≤ r) (hk : ∀ k, k < w'.heap.size → k ≠ r → w2.heap[k]? = w'.heap[k]?) (hs : w'.heap.size ≤ w2.heap.size) (hos : w2.os = w'.os) (hou : w2.output = w'.output) : Ext σ A w σ' A' w2 :=
  ⟨hX.le, Nat.le_trans hX.size hs, fun k hk' hno => by
    obtain ⟨k1, k2⟩ := hX.keep k hk' hno
    exact ⟨(hk k (Nat.lt_of_lt_of_le hk' hX.size) (by omega)).trans k1, k2⟩, hX.pend, hX.next, hX.same, hos.trans hX.os, hou.trans hX.out⟩
theorem x_call {ρ : Operand → Value} {o : Oper} {c : Call} {f : Operand} (ho : o.op = .call c) (hc : c.callee = .value f) (ha : c.args = #[]) : execOp ρ o = (do let d ← Deferred.ofValue (ρ f) #[]; invoke d.target d.args : Sem Next) := by
  unfold execOp; rw [ho]
  simp [resolve_value hc, ha]
end gen

variable {G : Goal prog}
def b48 : Frame := { (default : Frame) with fn := 48, kind := .normal }
theorem enter48 (p : Value) : ∃ c, f48.body = some c ∧ Frame.enter prog 48 #[p] .normal = onF b48 #[p, undef, undef, undef, undef, undef] [.code c] [] := by
  refine ⟨_, rfl, ?_⟩
  simp only [Frame.enter, tp48]
  rfl
theorem res48 {t : Array Value} {w : World} {eb : Nat} {y : Value} (h2 : t.getD 2 undef = .pointer (some ⟨eb, 0, none⟩)) (hc : w.heap[eb]? = some (.cells #[y] 34 (0, 0))) : (results f48 t).run prog w = .ok y w := by
  have := results_eq (P := prog) f48 t w (ys := [y]) (by
    show ((([ResultVar.cell 2 34] : List ResultVar).mapM (resRun w t)).run prog w) = _
    simp only [List.mapM_cons, List.mapM_nil, resRun, h2, asAddr, Sem.run_bind, Sem.run_pure, Result.andThen_ok, x_loadVar tp_a34 hc])
  simpa using this
theorem enters80 : Enters prog 80 := ⟨f80, tp80, rfl, by rfl⟩
theorem invoke80 (p : Value) (w : World) : (invoke (.fn (.func 80) #[p]) #[]).run prog w = .ok (.enter 80 #[p]) w := by
  have := callFunc_run enters80 #[p] w
  simp only [invoke, Array.empty_append]; exact this

theorem try_sound {cf : Cfg} (hf : cf.fault = 166) {ih : Tk → Bool} (IH : ∀ t, ih t = true → TaskS G t) (args : List AV) (A : AH) (K H : KV) (hk : sTry cf ih args A K = true) : CallS G 48 args A K H := by
  unfold sTry at hk
  split at hk
  case h_2 => cases hk
  rename_i xa
  obtain ⟨g, a, c, e, hk⟩ := asCom_t.1 hk
  subst e
  refine ⟨⟨f48, tp48, rfl, by rfl⟩, fun σ w vs cl cs hvs hA hK hP => ?_⟩
  obtain ⟨fv, rfl, hfv⟩ : ∃ fv, vs = #[fv] ∧ VRel σ (.com 2 g a c) fv := by
    generalize hl : vs.toList = l at hvs
    cases hvs with
    | cons h hs =>
      cases hs
      exact ⟨_, Array.toList_inj.1 (by rw [hl]), h⟩
  obtain ⟨zv, hz1, hz2⟩ := zeroV_run tp_z34
  have hzv := nat_inv (hz2 σ)
  subst hzv
  let eb := w.heap.size
  let ptr : Value := .pointer (some ⟨eb, 0, none⟩)
  let clo : Deferred := { target := .fn (.func 80) #[ptr], args := #[] }
  let w1 : World := { w with heap := w.heap.push (.cells #[.int .i64 (.ofNat 0)] 34) }
  obtain ⟨hA1, hX1⟩ := hA.same (w2 := w1) (fun k hk => by simp [w1, Array.getElem?_push, Nat.ne_of_lt hk]) (by simp [w1]) rfl rfl
  have hw1 : w1.heap[eb]? = some (.cells #[.int .i64 (.ofNat 0)] 34 (0, 0)) := by simp [w1, eb]
  have hnob : ∀ b base sz, σ b ≠ .at eb base sz := fun b base sz h => Nat.lt_irrefl _ (hA.low b eb base sz h)
  have heb1 : eb < w1.heap.size := by simp [w1, eb]
  obtain ⟨cd, hcd, he⟩ := enter48 fv
  rw [he]
  cases hcd
  refine G.back st_seq ?_
  refine G.back st_region ?_
  refine G.back (st_opv (t' := #[fv, undef, ptr, undef, undef, undef]) (i := 0) (rest := []) rfl (fun c h => by cases h) rfl (x_alloc rfl hz1) rfl) ?_
  refine G.back st_region_end ?_
  refine G.back st_seq ?_
  refine G.back st_region ?_
  refine G.back (st_opv (t' := #[fv, undef, ptr, .func (.func 80) #[] #[ptr], undef, undef]) (i := 0) (rest := [1]) rfl (fun c h => by cases h) rfl (x_makeFunc rfl) rfl) ?_
  refine G.back (st_op_defer (i := 1) (rest := []) (d := clo) rfl rfl rfl (x_defer (f := .tmp 3) rfl rfl rfl rfl)) ?_
  change G.ok A.ph (lone (onF b48 #[fv, undef, ptr, .func (.func 80) #[] #[ptr], undef, undef] _ [clo]) _ w1)
  refine G.back st_region_end ?_
  refine G.back st_seq ?_
  refine G.back st_region ?_
  refine G.back (st_opv (t' := #[fv, undef, ptr, .func (.func 80) #[] #[ptr], fv, undef]) (i := 0) (rest := [1]) rfl (fun c h => by cases h) rfl (x_move (.inl rfl)) rfl) ?_
  obtain ⟨hE, hC⟩ := IH _ hk
  cases hfv with
  | func g a c fs caps ha hc =>
    have hinv : (do let d ← Deferred.ofValue (.func (.func g) fs caps) #[]; invoke d.target d.args : Sem Next).run prog w1 = .ok (.enter g (fs ++ caps)) w1 := by
      have := callFunc_run hE (fs ++ caps) w1
      simpa [Deferred.ofValue, invoke] using this
    -- what the call leaves of the cell
    have cell : ∀ {σ' A' w'}, Ext σ A w1 σ' A' w' → w'.heap[eb]? = some (.cells #[.int .i64 (.ofNat 0)] 34 (0, 0)) ∧ (∀ b base sz, σ' b ≠ .at eb base sz) := fun hX => by
      obtain ⟨k1, k2⟩ := hX.unowned heb1 hnob
      exact ⟨k1.trans hw1, k2⟩
    refine G.back (st_op_enter (i := 1) (rest := []) rfl (fun c h => by cases h) rfl (by rw [x_call rfl rfl rfl]; exact hinv)) (hC σ w1 (fs ++ caps) _ _ (by rw [Array.toList_append]; exact ha.append hc) hA1 ?_ ?_)
    · intro v A' σ' x w' hk' hX hA' hv
      obtain ⟨e1, e2⟩ := cell hX
      obtain ⟨s1, s2, s3⟩ := set_cell (y := .int .i64 (.ofNat 0)) e1
      rw [fin_on (i := 1) (rest := []) x rfl]
      refine G.back st_region_end ?_
      refine G.back st_seq ?_
      refine G.back st_region ?_
      refine G.back (st_opu (i := 0) (rest := []) rfl (fun c h => by cases h) rfl (x_store1 (a := .tmp 2) (x := .const (.int .i64 (.ofNat 0))) (y := .int .i64 (.ofNat 0)) (cb := eb) (w := w') rfl tp_s34 rfl rfl rfl e1) rfl) ?_
      refine G.back st_region_end ?_
      refine G.back (st_ret rfl) ?_
      refine G.back (st_deferred (.inl rfl) (invoke80 ptr _)) ?_
      refine clo_none rfl ?_
      refine G.back (st_return (v := .int .i64 (.ofNat 0)) rfl tp48 (res48 (eb := eb) rfl s1)) ?_
      exact hK (.nat .i64 0) A' σ' (.int .i64 (.ofNat 0)) _ hk' ((hX1.trans hX).priv (Nat.le_refl _) (fun k _ hke => s2 k hke) (Nat.le_of_eq s3.symm) rfl rfl) (hA'.priv e2 (fun k _ hke => s2 k hke) (Nat.le_of_eq s3.symm)) (.nat .i64 0)
    · intro v A' σ' x w' hk' hX hA' hv hi
      obtain ⟨ty, av, cv, ev, hk'⟩ := asCom_t.1 hk'
      obtain ⟨h1, h2⟩ := and_t.1 hk'
      have hty := Nat.eq_of_beq_eq_true h1
      rw [hf] at hty
      subst hty; subst ev
      cases av with
      | nil => cases h2
      | cons u r =>
        obtain ⟨cells, hcs, h3⟩ := optK_t.1 h2
        cases cells with
        | nil => cases h3
        | cons x0 r0 =>
          cases r0 with
          | cons _ _ => cases h3
          | nil =>
            cases hv with
            | iface t0 a0 r1 c0 v1 hv1 =>
              obtain ⟨q1, q2⟩ := cellsO_rel hcs hv1
              obtain ⟨y, hy, hvy⟩ : ∃ y, v1.cells = #[y] ∧ VRel σ' x0 y := by
                generalize hl : v1.cells.toList = l at q1
                cases q1 with
                | cons h hs =>
                  cases hs
                  exact ⟨_, Array.toList_inj.1 (by rw [hl]), h⟩
              have hone : y.oneCell' = true := one_cell hvy (by simpa using q2)
              obtain ⟨e1, e2⟩ := cell hX
              obtain ⟨w2, s1, s2, s3, s4, hgo⟩ := clo_some (G := G) (eb := eb) (v1 := v1) (y := y) (w := w') (cs := cl :: cs) (c := { onF b48 #[.func (.func g) fs caps, undef, ptr, .func (.func 80) #[] #[ptr], .func (.func g) fs caps, undef] (.inRegion _ [1] :: _) [] with mode := .panicking (PE (.iface 166 v1)) }) rfl hy hone e1
              refine G.back (st_deferred (.inr ⟨_, rfl⟩) (invoke80 ptr _)) ?_
              refine hgo _ ?_
              refine G.back (st_return (v := y) rfl tp48 (res48 (eb := eb) rfl s1)) ?_
              exact hK x0 A' σ' y _ h3 ((hX1.trans hX).priv (Nat.le_refl _) s2 s3 s4.1 s4.2) (hA'.priv e2 s2 s3) hvy
end Go.Ai
