/- A part of the proof that the abstract interpreter is sound, and of the two goroutines of the lexer. -/
import Derived.Test.YticjebnbcnphkaaGreatDoorZLexB
import Derived.Test.YticjebnbcnphkaaGreatDoorZLiftZ

set_option linter.unusedSimpArgs false
set_option linter.unusedVariables false
set_option linter.unusedSectionVars false

namespace Go.Lift
open Go.Conc Go.Proofs

section F
variable {P : Program} {main : Bool} {Stop : Own → Goroutine → World → Prop} {b : Frame} {a : Act} {k : List Item} {cs : List Frame} {O : Own} {w : World}
theorem F_seq {x y : Code} (h : FinO P main Stop O (G (b.at a (.code x :: .code y :: k)) cs) w) : FinO P main Stop O (G (b.at a (.code (.seq x y) :: k)) cs) w := .ctl rfl (fun _ => stepG_seq) h
theorem F_block {id : Nat} {c : Code} (h : FinO P main Stop O (G (b.at a (.code c :: .inBlock id :: k)) cs) w) : FinO P main Stop O (G (b.at a (.code (.block id c) :: k)) cs) w := .ctl rfl (fun _ => stepG_block) h
theorem F_inBlock {id : Nat} (h : FinO P main Stop O (G (b.at a k) cs) w) : FinO P main Stop O (G (b.at a (.inBlock id :: k)) cs) w := .ctl rfl (fun _ => stepG_inBlock) h
theorem F_scope {c : Code} (h : FinO P main Stop O (G (b.at a (.code c :: .inScope c :: k)) cs) w) : FinO P main Stop O (G (b.at a (.code (.scope c) :: k)) cs) w := .ctl rfl (fun _ => stepG_scope) h
theorem F_inScope {c : Code} (h : FinO P main Stop O (G (b.at a k) cs) w) : FinO P main Stop O (G (b.at a (.inScope c :: k)) cs) w := .ctl rfl (fun _ => stepG_inScope) h
theorem F_loop {c : Code} (h : FinO P main Stop O (G (b.at a (.code c :: .inLoop c :: k)) cs) w) : FinO P main Stop O (G (b.at a (.code (.loop c) :: k)) cs) w := .ctl rfl (fun _ => stepG_loop) h
theorem F_inLoop {c : Code} (h : FinO P main Stop O (G (b.at a (.code c :: .inLoop c :: k)) cs) w) : FinO P main Stop O (G (b.at a (.inLoop c :: k)) cs) w := .ctl rfl (fun _ => stepG_inLoop) h
theorem F_skip (h : FinO P main Stop O (G (b.at a k) cs) w) : FinO P main Stop O (G (b.at a (.code .skip :: k)) cs) w := .ctl rfl (fun _ => stepG_skip) h
theorem F_label {l : Nat} (h : FinO P main Stop O (G (b.at a k) cs) w) : FinO P main Stop O (G (b.at a (.code (.label l) :: k)) cs) w := .ctl rfl (fun _ => stepG_label) h
theorem F_exit {id : Nat} {k' : List Item} (he : exitTo id k = some k') (h : FinO P main Stop O (G (b.at a k') cs) w) : FinO P main Stop O (G (b.at a (.code (.exit id) :: k)) cs) w := .ctl rfl (fun _ => stepG_exit he) h
theorem F_region {id : Nat} {ops : Array Oper} (h : FinO P main Stop O (G (b.at a (.inRegion ops (List.range ops.size) :: k)) cs) w) : FinO P main Stop O (G (b.at a (.code (.region id ops false) :: k)) cs) w := .ctl rfl (fun _ => stepG_region) h
theorem F_ret (h : FinO P main Stop O (G { b.at a (.code .ret :: k) with mode := .returning } cs) w) : FinO P main Stop O (G (b.at a (.code .ret :: k)) cs) w := .ctl rfl (fun _ => stepG_ret') h
theorem F_end (h : FinO P main Stop O (G { b.at a [] with mode := .returning } cs) w) : FinO P main Stop O (G (b.at a []) cs) w := .ctl rfl (fun _ => stepG_end) h
variable {S : List (Nat × Value)} {n : Nat} {ds : List Deferred}
theorem F_cond {c : Operand} {x y : Code} {t : Bool} (hS : Sl S n ds a) (ht : told S c = true) (hc : evS S c = .bool t) (h : FinO P main Stop O (G (b.at a (.code (if t then x else y) :: k)) cs) w) : FinO P main Stop O (G (b.at a (.code (.cond c x y) :: k)) cs) w :=
  .ctl rfl (fun _ => stepG_cond (by rw [hS.eval ht]; exact hc)) h
/-- only what comes after matters -/
def NQ (k : Act → Own → World → Prop) : PostO
  | .normal, a, O, w => k a O w
  | _, _, _, _ => False
theorem F_wp {fn : FuncId} {c : Code} (hb : b.fn = fn) (hk : b.kind ≠ .early) (h : wpO P main fn c (NQ fun a O w => FinO P main Stop O (G (b.at a k) cs) w) a O w) : FinO P main Stop O (G (b.at a (.code c :: k)) cs) w :=
  h b k cs Stop hb hk fun e a' O' w' q => by cases e <;> first | exact q | exact q.elim
theorem F_ops {fn : FuncId} {ops : Array Oper} {todo : List Nat} (hb : b.fn = fn) (hk : b.kind ≠ .early) (h : OpsO P main fn ops todo (NQ fun a O w => FinO P main Stop O (G (b.at a k) cs) w) a O w) : FinO P main Stop O (G (b.at a (.inRegion ops todo :: k)) cs) w :=
  h b k cs Stop hb hk fun e a' O' w' q => by cases e <;> first | exact q | exact q.elim
end F

def SA (s : ByteArray) (c q k p : Nat) : List (Nat × Value) := [(7, vI p), (6, vR k), (0, .string s), (1, .chan (some c)), (2, .chan (some q))]
def tokV (kd p : Nat) (t : ByteArray) : Value := .agg #[vI kd, vI p, .string t, vI 0]
def dS (c : Nat) : Deferred := dShut c #[140] 0 #[false]
def b39 : Frame := baseD 39
noncomputable def bot : Frame := botG Tryz.prog
/-- the child at the loop's head -/
noncomputable def head39 (a : Act) : Goroutine := G (b39.at a [.code loop39, .inLoop loop39, .inBlock 0, .inScope (match body39 with | .scope c => c | _ => .skip)]) [bot]

theorem zero147 (w : World) : (zeroValue 147).run Tryz.prog w = .ok (.agg #[]) w := by kernel_rfl

set_option maxRecDepth 100000 in
set_option maxHeartbeats 1000000 in
theorem scan_round {s : ByteArray} {c q k p jc kd len b1 b2 b3 b4 b5 : Nat} {cc : UInt8} {O : Own} {w : World} {a : Act} {vs : List Value}
    (hs : s.size ≤ 20000) (hcc : s.data[p]? = some cc) (hcl : Cls cc.toNat ((byt s).drop p) jc kd len) (hR : RulesAt k b1 b2 b3 b4 b5 O w) (hS : Sl (SA s c q k p) 76 [dS c] a)
    (hnext : p + len ≤ s.size → ∀ a' O' w', RulesAt k b1 b2 b3 b4 b5 O' w' → Sl (SA s c q k (p + len)) 76 [dS c] a' → SendsO Tryz.prog c q (if kd = 0 then vs else vs.tail) O' (head39 a') w')
    (hv : kd ≠ 0 → ∃ vs', vs = tokV kd p (s.extract p (p + len)) :: vs') : SendsO Tryz.prog c q vs O (head39 a) w := by
  have hps : p < s.size := (Array.getElem?_eq_some_iff.1 hcc).1
  rw [sendsO_iff]
  unfold head39
  refine F_seq (F_seq (F_wp (fn := 39) rfl (by decide) (wpO_region ?_)))
  refine Yv.use hS rfl rfl rfl rfl (by decide) (yv_move (v := vI p) (.inl rfl) rfl) fun a hS => ?_
  refine Yv.use hS rfl rfl rfl rfl (by decide) (yv_move (v := .string s) (.inl rfl) rfl) fun a hS => ?_
  refine Yv.use hS rfl rfl rfl rfl (by decide) (yv_len_str (s := s) rfl rfl rfl rfl Tryz.underlying9 rfl) fun a hS => ?_
  refine Yv.use hS rfl rfl rfl rfl (by decide) (yv_cmp (q := true) rfl rfl rfl (congrArg some (decide_eq_true (by omega)))) fun a hS => opsO_nil ?_
  refine F_cond hS rfl rfl (F_skip ?_)
  refine F_block (F_seq (F_wp (fn := 39) rfl (by decide) (wpO_region ?_)))
  refine Yv.use hS rfl rfl rfl rfl (by decide) (yv_move (v := vI p) (.inl rfl) rfl) fun a hS => ?_
  refine Yv.use hS rfl rfl rfl rfl (by decide) (v := .agg #[vI 0, vI p, .string ⟨#[]⟩]) (fun w => ⟨by kernel_rfl, by kernel_rfl⟩) fun a hS => ?_
  refine Yv.use hS rfl rfl rfl rfl (by decide) (v := .agg #[vI 0, vI p, .string ⟨#[]⟩, vI 60]) (fun w => ⟨by kernel_rfl, by kernel_rfl⟩) fun a hS => ?_
  refine Yn.use hS rfl rfl rfl rfl (by decide) (yn_alloc rfl zero93) fun kx O1 w1 a q1 q2 q3 q4 q5 q6 q7 q8 hS => ?_
  have K1 : Kp O w O1 w1 := ⟨q5, q6, q7, q8⟩
  refine Yw.use q1 q4 hS rfl rfl rfl rfl (obj' := xErr p) (yw_store (off := 0) (vs := [vI 0, vI p, .string ⟨#[]⟩, vI 60]) rfl size93 rfl rfl rfl (by simp [vI, Value.oneCell']) (Nat.le_of_ble_eq_true rfl)) fun w2 a g1 g2 g3 hS => opsO_nil ?_
  have hX : IX O w kx (xErr p) O1 w2 := ⟨mem_push_keep g2 g3 K1 q2, q1, q2, g1⟩
  refine F_seq (F_seq (F_wp (fn := 39) rfl (by decide) (wpO_region ?_)))
  refine Yv.use hS rfl rfl rfl rfl (by decide) (yv_move (v := vR k) (.inl rfl) rfl) fun a hS => ?_
  refine Yv.use hS rfl rfl rfl rfl (by decide) (v := vI 5) (fun w => ⟨by kernel_rfl, by kernel_rfl⟩) fun a hS => ?_
  refine Yv.use hS rfl rfl rfl rfl (by decide) (yv_move (v := vI 0) (.inl rfl) rfl) fun a hS => opsO_nil ?_
  refine F_wp (fn := 39) rfl (by decide) (rules_loop hs hcc hcl hR hX (hS.cut ⟨rfl, rfl, rfl, rfl, rfl, rfl, rfl, rfl, rfl, trivial⟩) fun a O3 w3 hle hX hS => ?_)
  show FinO _ _ _ _ _ _
  have hlen : (s.extract p (p + len)).size = len := by rw [ByteArray.size_extract]; omega
  have hO := hX.own
  have hc := hX.cell
  have hRn : RulesAt k b1 b2 b3 b4 b5 O3 w3 := hR.kp hX.kp
  refine F_seq (F_wp (fn := 39) rfl (by decide) (wpO_region ?_))
  refine Yv.use hS rfl rfl rfl rfl (by decide) (yv_move (v := vI p) (.inl rfl) rfl) fun a hS => ?_
  refine Yv.use hS rfl rfl rfl rfl (by decide) (v := vP kx 0) (fun w => ⟨by kernel_rfl, by kernel_rfl⟩) fun a hS => ?_
  refine Yv.use hS rfl rfl rfl rfl (by decide) (v := vP kx 2) (fun w => ⟨by kernel_rfl, by kernel_rfl⟩) fun a hS => ?_
  refine Yl.use hO hc hS rfl rfl rfl rfl (by decide) (yl_load1 (off := 2) (v := .string (s.extract p (p + len))) rfl agg9 rfl rfl) fun a hS => ?_
  refine Yv.use hS rfl rfl rfl rfl (by decide) (yv_len_str (s := s.extract p (p + len)) rfl rfl rfl rfl Tryz.underlying9 rfl) fun a hS => ?_
  refine Yv.use hS rfl rfl rfl rfl (by decide) (yv_add (r := ((p + len : Nat) : Int)) rfl rfl rfl (by rw [hlen, IntKind.wrap_i64]; omega)) fun a hS => ?_
  refine Yv.use hS rfl rfl rfl rfl (by decide) (yv_move (v := vI (p + len)) (.inr rfl) rfl) fun a hS => opsO_nil ?_
  show FinO _ _ _ _ _ _
  refine F_seq (F_seq (F_wp (fn := 39) rfl (by decide) (wpO_region ?_)))
  refine Yv.use hS rfl rfl rfl rfl (by decide) (v := vP kx 0) (fun w => ⟨by kernel_rfl, by kernel_rfl⟩) fun a hS => ?_
  refine Yv.use hS rfl rfl rfl rfl (by decide) (v := vP kx 0) (fun w => ⟨by kernel_rfl, by kernel_rfl⟩) fun a hS => ?_
  refine Yl.use hO hc hS rfl rfl rfl rfl (by decide) (yl_load1 (off := 0) (v := vI kd) rfl agg3 rfl rfl) fun a hS => ?_
  have tail : ∀ {vs' : List Value}, (∀ a', Sl (SA s c q k (p + len)) 76 [dS c] a' → SendsO Tryz.prog c q vs' O3 (head39 a') w3) → True := fun _ => trivial
  refine Yv.use hS rfl rfl rfl rfl (by decide) (yv_cmp (q := decide (kd = 0)) rfl rfl rfl (congrArg some (by rcases hcl with ⟨_, rfl, _⟩ | ⟨_, rfl, _⟩ | ⟨_, rfl, _⟩ | ⟨_, rfl, _⟩ <;> rfl))) fun a hS => ?_
  cases hkd : decide (kd = 0) with
  | true =>
    rw [hkd] at hS
    have hk0 : kd = 0 := of_decide_eq_true hkd
    refine Yv.use hS rfl rfl rfl rfl (by decide) (yv_move (v := .bool true) (.inl rfl) rfl) fun a hS => ?_
    refine Yv.use hS rfl rfl rfl rfl (by decide) (v := vP kx 3) (fun w => ⟨by kernel_rfl, by kernel_rfl⟩) fun a hS => ?_
    refine Yl.use hO hc hS rfl rfl rfl rfl (by decide) (yl_load1 (off := 3) (v := vI 0) rfl agg34 rfl rfl) fun a hS => ?_
    refine Yv.use hS rfl rfl rfl rfl (by decide) (yv_cmp (q := true) rfl rfl rfl rfl) fun a hS => ?_
    refine Yv.use hS rfl rfl rfl rfl (by decide) (yv_pick (v := .bool true) rfl rfl rfl) fun a hS => opsO_nil ?_
    show FinO _ _ _ _ _ _
    refine F_cond hS rfl rfl (F_exit rfl (F_inLoop ?_))
    have := hnext hle a O3 w3 hRn (hS.cut ⟨rfl, rfl, rfl, rfl, rfl, trivial⟩)
    rw [if_pos hk0, sendsO_iff] at this
    exact this
  | false =>
    rw [hkd] at hS
    have hk0 : kd ≠ 0 := of_decide_eq_false hkd
    obtain ⟨vs', rfl⟩ := hv hk0
    refine Yv.use hS rfl rfl rfl rfl (by decide) (yv_move (v := .bool false) (.inl rfl) rfl) fun a hS => ?_
    refine opsS_skip hS rfl rfl rfl (by decide) fun a hS => ?_
    refine opsS_skip hS rfl rfl rfl (by decide) fun a hS => ?_
    refine opsS_skip hS rfl rfl rfl (by decide) fun a hS => ?_
    refine Yv.use hS rfl rfl rfl rfl (by decide) (yv_pick (v := .bool false) rfl rfl rfl) fun a hS => opsO_nil ?_
    show FinO _ _ _ _ _ _
    refine F_cond hS rfl rfl (F_skip ?_)
    repeat refine F_seq ?_
    refine F_wp (fn := 39) rfl (by decide) (wpO_region ?_)
    refine Yv.use hS rfl rfl rfl rfl (by decide) (yv_move (v := .chan (some c)) (.inl rfl) rfl) fun a hS => opsO_nil ?_
    show FinO _ _ _ _ _ _
    refine F_wp (fn := 39) rfl (by decide) (wpO_region ?_)
    refine Yl.use hO hc hS rfl rfl rfl rfl (by decide) (v := tokV kd p (s.extract p (p + len))) (yl_loadN (off := 0) (vs := [vI kd, vI p, .string (s.extract p (p + len)), vI 0]) rfl agg93 size93 rfl rfl fun i v hi => ?_) fun a hS => opsO_nil ?_
    · match i, hi with
      | 0, hi => cases hi; rfl
      | 1, hi => cases hi; rfl
      | 2, hi => cases hi; rfl
      | 3, hi => cases hi; rfl
    show FinO _ _ _ _ _ _
    refine F_wp (fn := 39) rfl (by decide) (wpO_region ?_)
    refine Yv.use hS rfl rfl rfl rfl (by decide) (yv_move (v := .chan (some q)) (.inl rfl) rfl) fun a hS => opsO_nil ?_
    show FinO _ _ _ _ _ _
    refine F_seq (F_region ?_)
    refine (sendsO_iff ..).1 (sends_select (z' := z93) (zq := .agg #[]) rfl (hS.wanted rfl) (by decide) (sel_run rfl ((hS.eval rfl).trans rfl) ((hS.eval rfl).trans rfl) ((hS.eval rfl).trans rfl) zero93 zero147) ?_)
    rw [sendsO_iff]
    have hS' := hS.put (d := 69) (by decide) (selRes (.agg #[]))
    refine F_ops (fn := 39) rfl (by decide) ?_
    generalize hax : Act.put a (some 69) (selRes (.agg #[])) = ax at hS'
    show OpsO _ _ _ _ _ _ (Act.put a (some 69) (selRes (.agg #[]))) _ _
    rw [hax]
    clear hax hS a
    refine Yv.use hS' rfl rfl rfl rfl (by decide) (v := vI 0) (yv_extract rfl rfl rfl) fun a hS => ?_
    refine Yv.use hS rfl rfl rfl rfl (by decide) (yv_cmp (q := true) rfl rfl rfl rfl) fun a hS => ?_
    refine Yv.use hS rfl rfl rfl rfl (by decide) (yv_cmp (q := false) rfl rfl rfl rfl) fun a hS => opsO_nil ?_
    show FinO _ _ _ _ _ _
    refine F_block (F_cond hS rfl rfl (F_skip (F_inBlock ?_)))
    refine F_seq ?_
    refine F_wp (fn := 39) rfl (by decide) (wpO_region ?_)
    refine Yv.use hS rfl rfl rfl rfl (by decide) (v := vP kx 3) (fun w => ⟨by kernel_rfl, by kernel_rfl⟩) fun a hS => ?_
    refine Yl.use hO hc hS rfl rfl rfl rfl (by decide) (yl_load1 (off := 3) (v := vI 0) rfl agg34 rfl rfl) fun a hS => ?_
    refine Yv.use hS rfl rfl rfl rfl (by decide) (yv_cmp (q := false) rfl rfl rfl rfl) fun a hS => opsO_nil ?_
    show FinO _ _ _ _ _ _
    refine F_cond hS rfl rfl (F_skip (F_inBlock (F_inLoop ?_)))
    have := hnext hle a O3 w3 hRn (hS.cut ⟨rfl, rfl, rfl, rfl, rfl, trivial⟩)
    rw [if_neg hk0, sendsO_iff] at this
    exact this

/-- the texts that the child sends -/
def tokVs : List (Nat × Nat × List Nat) → List Value := fun l => l.map fun x => tokV x.1 x.2.1 ⟨(x.2.2.map Nat.toUInt8).toArray⟩

theorem byt_tok (s : ByteArray) (p len : Nat) (h : p + len ≤ s.size) : s.extract p (p + len) = ⟨((((byt s).drop p).take len).map Nat.toUInt8).toArray⟩ := by
  have := byt_extract s p (p + len) h
  rw [Nat.add_sub_cancel_left] at this
  rw [← this]
  unfold byt
  generalize s.extract p (p + len) = t
  cases t with
  | mk d =>
    congr 1
    apply Array.ext'
    simp [List.map_map, Function.comp_def]

set_option maxRecDepth 100000 in
theorem scan_end {s : ByteArray} {c q k p : Nat} {O : Own} {w : World} {a : Act} (hp : p = s.size) (hS : Sl (SA s c q k p) 76 [dS c] a) : SendsO Tryz.prog c q [] O (head39 a) w := by
  rw [sendsO_iff]
  unfold head39
  refine F_seq (F_seq (F_wp (fn := 39) rfl (by decide) (wpO_region ?_)))
  refine Yv.use hS rfl rfl rfl rfl (by decide) (yv_move (v := vI p) (.inl rfl) rfl) fun a hS => ?_
  refine Yv.use hS rfl rfl rfl rfl (by decide) (yv_move (v := .string s) (.inl rfl) rfl) fun a hS => ?_
  refine Yv.use hS rfl rfl rfl rfl (by decide) (yv_len_str (s := s) rfl rfl rfl rfl Tryz.underlying9 rfl) fun a hS => ?_
  refine Yv.use hS rfl rfl rfl rfl (by decide) (yv_cmp (q := false) rfl rfl rfl (congrArg some (decide_eq_false (by omega)))) fun a hS => opsO_nil ?_
  refine F_cond hS rfl rfl (F_exit rfl (F_inScope (F_end ?_)))
  have e : b39.at a [] = (baseD 39).at ⟨a.tmps, [dShut c #[140] 0 #[false]]⟩ [] := by
    have := hS.defers
    cases a
    simp only at this
    subst this
    rfl
  rw [e]
  exact .stop fun w₁ _ => atShut_deferred Tryz.func39 (by kernel_rfl) (by kernel_rfl)
end Go.Lift

namespace Go.Lift
open Go.Conc Go.Proofs

theorem tk_dk (p : Nat → Bool) : ∀ l : List Nat, Ai.tk p l ++ Ai.dk p l = l
  | [] => rfl
  | c :: r => by
    simp only [Ai.tk, Ai.dk]
    cases p c with
    | true => simp [tk_dk p r]
    | false => simp
theorem tk_take (p : Nat → Bool) (l : List Nat) : l.take (Ai.tk p l).length = Ai.tk p l := by
  have := List.take_left (l₁ := Ai.tk p l) (l₂ := Ai.dk p l)
  rwa [tk_dk] at this
theorem tk_drop (p : Nat → Bool) (l : List Nat) : l.drop (Ai.tk p l).length = Ai.dk p l := by
  have := List.drop_left (l₁ := Ai.tk p l) (l₂ := Ai.dk p l)
  rwa [tk_dk] at this

theorem consO_some {x : Nat × Nat × List Nat} {o : Option (List (Nat × Nat × List Nat))} {l : List (Nat × Nat × List Nat)} (h : Ai.consO x o = some l) : ∃ l', o = some l' ∧ l = x :: l' := by
  cases o with
  | none => cases h
  | some l' => cases h; exact ⟨l', rfl, rfl⟩

theorem scan_all {s : ByteArray} {c q k b1 b2 b3 b4 b5 : Nat} (hs : s.size ≤ 20000) : ∀ (n p : Nat) (l : List (Nat × Nat × List Nat)) (O : Own) (w : World) (a : Act), Ai.lexT n ((byt s).drop p) p = some l → p ≤ s.size → RulesAt k b1 b2 b3 b4 b5 O w → Sl (SA s c q k p) 76 [dS c] a →
    SendsO Tryz.prog c q (tokVs l) O (head39 a) w
  | n, p, l, O, w, a, hl, hp, hR, hS => by
    cases hd : (byt s).drop p with
    | nil =>
      have hpe : p = s.size := by
        have := congrArg List.length hd
        rw [List.length_drop, byt_len] at this
        simp at this; omega
      rw [hd] at hl
      have : l = [] := by cases n <;> (simp only [Ai.lexT, Option.some.injEq] at hl; exact hl.symm)
      subst this
      exact scan_end hpe hS
    | cons cn r =>
      have hlt : p < s.size := by
        have := congrArg List.length hd
        rw [List.length_drop, byt_len] at this
        simp at this; omega
      have hcc : s.data[p]? = some (s.data[p]'hlt) := Array.getElem?_eq_getElem hlt
      generalize s.data[p]'hlt = cc at hcc
      have hcn : cn = cc.toNat := by
        have h1 := byt_get hcc
        have h2 : (byt s)[p]? = some cn := by
          have := congrArg (fun l => l[0]?) hd
          simpa using this
        rw [h1] at h2; cases h2; rfl
      rw [hd] at hl
      cases n with
      | zero => cases hl
      | succ n =>
        have hdrop : ∀ m, (byt s).drop (p + m) = (cn :: r).drop m := fun m => by rw [← hd, List.drop_drop]
        simp only [Ai.lexT] at hl
        cases h1 : Ai.isW cn with
        | true =>
          rw [h1] at hl
          obtain ⟨l', e1, e2⟩ := consO_some hl
          have htk : Ai.tk Ai.isW (cn :: r) = cn :: Ai.tk Ai.isW r := by simp [Ai.tk, h1]
          have hdk : Ai.dk Ai.isW (cn :: r) = Ai.dk Ai.isW r := by simp [Ai.dk, h1]
          refine scan_round hs hcc (jc := 0) (kd := 1) (len := (Ai.tk Ai.isW (cn :: r)).length) (.inl ⟨rfl, rfl, by rw [← hcn]; exact h1, by rw [hd]⟩) hR hS (fun hle a' O' w' hR' hS' => ?_) fun _ => ?_
          · rw [if_neg (by decide), e2]
            refine scan_all hs n _ l' O' w' a' ?_ hle hR' hS'
            rw [hdrop, tk_drop, hdk, htk]
            exact e1
          · refine ⟨tokVs l', ?_⟩
            have hle : p + (Ai.tk Ai.isW (cn :: r)).length ≤ s.size := by
              have h2 := tk_le Ai.isW (cn :: r)
              have := congrArg List.length hd
              rw [List.length_drop, byt_len] at this
              omega
            rw [byt_tok s p _ hle, hd, tk_take, htk, e2]
            rfl
        | false =>
          rw [h1] at hl
          cases h2 : Ai.isB cn with
          | true =>
            rw [h2] at hl
            have htk : Ai.tk Ai.isB (cn :: r) = cn :: Ai.tk Ai.isB r := by simp [Ai.tk, h2]
            have hdk : Ai.dk Ai.isB (cn :: r) = Ai.dk Ai.isB r := by simp [Ai.dk, h2]
            refine scan_round hs hcc (jc := 1) (kd := 0) (len := (Ai.tk Ai.isB (cn :: r)).length) (.inr (.inl ⟨rfl, rfl, by rw [← hcn]; exact h1, by rw [← hcn]; exact h2, by rw [hd]⟩)) hR hS (fun hle a' O' w' hR' hS' => ?_) fun h => absurd rfl h
            rw [if_pos rfl]
            refine scan_all hs n _ l O' w' a' ?_ hle hR' hS'
            rw [hdrop, tk_drop, hdk, htk]
            exact hl
          | false =>
            rw [h2] at hl
            have tok1 : ∀ l', l = (l' : List (Nat × Nat × List Nat)) → p + 1 ≤ s.size → s.extract p (p + 1) = ⟨(([cn] : List Nat).map Nat.toUInt8).toArray⟩ := fun l' _ hle => by
              rw [byt_tok s p 1 hle, hd]; rfl
            cases h3 : Nat.beq cn 40 with
            | true =>
              rw [h3] at hl
              obtain ⟨l', e1, e2⟩ := consO_some hl
              refine scan_round hs hcc (jc := 2) (kd := 2) (len := 1) (.inr (.inr (.inl ⟨rfl, rfl, by rw [← hcn]; exact h1, by rw [← hcn]; exact h2, by rw [← hcn]; exact h3, rfl⟩))) hR hS (fun hle a' O' w' hR' hS' => ?_) fun _ => ⟨tokVs l', ?_⟩
              · rw [if_neg (by decide), e2]
                exact scan_all hs n _ l' O' w' a' (by rw [hdrop]; exact e1) hle hR' hS'
              · rw [tok1 l rfl hlt, e2]; rfl
            | false =>
              rw [h3] at hl
              cases h4 : Nat.beq cn 41 with
              | true =>
                rw [h4] at hl
                obtain ⟨l', e1, e2⟩ := consO_some hl
                refine scan_round hs hcc (jc := 3) (kd := 3) (len := 1) (.inr (.inr (.inr ⟨rfl, rfl, by rw [← hcn]; exact h1, by rw [← hcn]; exact h2, by rw [← hcn]; exact h3, by rw [← hcn]; exact h4, rfl⟩))) hR hS (fun hle a' O' w' hR' hS' => ?_) fun _ => ⟨tokVs l', ?_⟩
                · rw [if_neg (by decide), e2]
                  exact scan_all hs n _ l' O' w' a' (by rw [hdrop]; exact e1) hle hR' hS'
                · rw [tok1 l rfl hlt, e2]; rfl
              | false => rw [h4] at hl; cases hl

set_option maxRecDepth 100000 in
/-- the child, from its birth -/
theorem scan_born {s : ByteArray} {c q : Nat} (hs : s.size ≤ 20000) {n : Nat} {l : List (Nat × Nat × List Nat)} (hl : Ai.lexT n (byt s) 0 = some l) (w : World) :
    SendsO Tryz.prog c q (tokVs l) (fun _ => False) (born Tryz.prog (dcall 39 #[.string s, .chan (some c), .chan (some q)])) w := by
  rw [sendsO_iff]
  refine .ctl rfl (fun w₁ => born_step Tryz.func39 rfl (by rfl) w₁) ?_
  have hS : Sl [(0, .string s), (1, .chan (some c)), (2, .chan (some q))] 76 [] (⟨#[.string s, .chan (some c), .chan (some q)] ++ Array.replicate (Tryz.f39.ntmps - 3) undef, []⟩ : Act) :=
    sl_enter (args := #[.string s, .chan (some c), .chan (some q)]) _ (fun t v h => by rcases look3 h with ⟨rfl, rfl⟩ | ⟨rfl, rfl⟩ | ⟨rfl, rfl⟩ <;> rfl) (Nat.le_of_ble_eq_true rfl)
  show FinO _ _ _ _ (G ((baseD 39).at _ _) _) _
  revert hS
  generalize (⟨#[.string s, .chan (some c), .chan (some q)] ++ Array.replicate (Tryz.f39.ntmps - 3) undef, []⟩ : Act) = a
  intro hS
  refine F_scope ?_
  repeat refine F_seq ?_
  refine F_wp (fn := 39) rfl (by decide) (wpO_region ?_)
  refine Yv.use hS rfl rfl rfl rfl (by decide) (yv_move (v := .chan (some c)) (.inl rfl) rfl) fun a hS => ?_
  refine opsS_defer hS rfl rfl rfl rfl (d := dS c) (fun w => ⟨by kernel_rfl, by kernel_rfl⟩) fun a hS => opsO_nil ?_
  show FinO _ _ _ _ _ _
  repeat refine F_seq ?_
  refine F_wp (fn := 39) rfl (by decide) (wpO_region ?_)
  refine opsS_call hS rfl rfl rfl rfl (by decide) (yc (args := #[]) (caps := #[]) Tryz.func66 rfl (by rfl) rfl rfl rfl rfl) (rules_c _ _) fun v O' w' a hR hS => ?_
  obtain ⟨k, b1, b2, b3, b4, b5, rfl, hR, _⟩ := hR
  refine Yv.use hS rfl rfl rfl rfl (by decide) (yv_move (v := vR k) (.inr rfl) rfl) fun a hS => opsO_nil ?_
  show FinO _ _ _ _ _ _
  repeat refine F_seq ?_
  refine F_label ?_
  repeat refine F_seq ?_
  refine F_wp (fn := 39) rfl (by decide) (wpO_region ?_)
  refine Yv.use hS rfl rfl rfl rfl (by decide) (yv_move (v := vI 0) (.inr rfl) rfl) fun a hS => opsO_nil ?_
  show FinO _ _ _ _ _ _
  refine F_block (F_loop ?_)
  have := scan_all (c := c) (q := q) hs n 0 l O' w' a (by simpa using hl) (Nat.zero_le _) hR (hS.cut ⟨rfl, rfl, rfl, rfl, rfl, trivial⟩)
  rw [sendsO_iff] at this
  exact this
end Go.Lift

namespace Go.Lift
open Go.Conc Go.Proofs

noncomputable def i91 : TypeInfo := (Tryz.prog.info? 91).getD default
def z91 : Value := .agg #[vI 0, vI 0, .string ⟨#[]⟩]
theorem info91 : Tryz.prog.info? 91 = some i91 := by kernel_rfl
theorem info91s : i91.size = 3 := by kernel_rfl
theorem info91b : i91.bytes = 32 := by kernel_rfl
theorem info91z : i91.zero = some z91 := by kernel_rfl
theorem agg91 (w : World) : (isAgg 91).run Tryz.prog w = .ok true w := Ai.isAgg_run (b := true) (by kernel_rfl) w
theorem size91 (w : World) : (sizeOf 91).run Tryz.prog w = .ok 3 w := Ai.size_run (by kernel_rfl) w

noncomputable def body15 : Code := match Tryz.f15.body with | some c => c | none => .skip
noncomputable def loop15 : Code := match body15 with | .seq _ (.seq _ (.seq _ (.seq _ (.seq _ (.seq _ (.seq (.seq _ (.block _ (.loop c))) _)))))) => c | _ => .skip
noncomputable def rest15 : Code := match body15 with | .seq _ (.seq _ (.seq _ (.seq _ (.seq _ (.seq _ (.seq _ c)))))) => c | _ => .skip
def b15 : Frame := base 15
def dQ (q : Nat) : Deferred := dShut q #[88] 0 #[false]

/-- a row of tokens, one's own -/
structure RowO (O : Own) (w : World) (v : Value) (n : Nat) (xs : List Value) : Prop where
  row : w.ownsRow 0 91 3 v n xs
  own : ∀ g, v.ownBlock = some g → O g

theorem RowO.nil (O : Own) (w : World) : RowO O w (.slice none 0 0) 0 [] := ⟨World.ownsRow_nil w 0 91 3, fun g h => by cases h⟩
theorem RowO.kp {O O' : Own} {w w' : World} {v : Value} {n : Nat} {xs : List Value} (h : RowO O w v n xs) (hk : ∀ g, O g → O' g) (hw : ∀ g, O g → g < w.heap.size → w'.heap[g]? = w.heap[g]?) : RowO O' w' v n xs := by
  refine ⟨⟨h.row.1, ?_⟩, fun g hg => hk g (h.own g hg)⟩
  rcases h.row.2 with h1 | ⟨g, cap, cur, rfl, h2, h3, h4⟩
  · exact .inl h1
  · exact .inr ⟨g, cap, cur, rfl, h2, (hw g (h.own g rfl) (Array.getElem?_eq_some_iff.1 h3).1).trans h3, h4⟩
theorem RowO.rely {O : Own} {w w' : World} {v : Value} {n : Nat} {xs : List Value} (h : RowO O w v n xs) (hr : Rely O w w') : RowO O w' v n xs := h.kp (fun _ h => h) hr.keep

section
variable {main : Bool} {fn : FuncId} {ops : Array Oper} {i : Nat} {rest : List Nat} {Q : PostO} {S : List (Nat × Value)} {n : Nat} {ds : List Deferred} {a : Act} {o : Oper} {O : Own} {w : World}

theorem opsS_append {d : Nat} {x y : Operand} {v : Value} {m kb : Nat} {xs news : List Value} (hS : Sl S n ds a) (ho : ops[i]? = some o) (hw : wS S ops o = some true) (hd : o.dst = some d) (hdn : d < n)
    (hop : o.op = .call { callee := .builtin .append, args := #[x, y], argTypes := #[44, 44] }) (hx : told S x = true) (hxv : evS S x = v) (hy : told S y = true) (hyv : evS S y = .slice (some ⟨kb, 0, none⟩) 1 1)
    (hrow : RowO O w v m xs) (hkO : O kb) (hkc : w.heap[kb]? = some (.cells news.toArray 91 (0, 0))) (hl : news.length = 3) (h1 : ∀ u ∈ news, u.oneCell' = true) (hm : m ≤ 65536)
    (h : ∀ v' O' w' a', RowO O' w' v' (m + 1) (xs ++ news) → (∀ g, O g → O' g) → Sl ((d, v') :: S) n ds a' → OpsO Tryz.prog main fn ops rest Q a' O' w') : OpsO Tryz.prog main fn ops (i :: rest) Q a O w := by
  refine opsO_cons ho (hS.wanted hw) fun w₁ h₁ => ?_
  have hrow1 := hrow.rely h₁
  have hkc1 := rely_heap h₁ hkO hkc
  have ex : a.eval x = v := (hS.eval hx).trans hxv
  have ey : a.eval y = .slice (some ⟨kb, 0, none⟩) 1 1 := (hS.eval hy).trans hyv
  have hadd : ∀ j, (⟨kb, 0, none⟩ : Addr).add j = ⟨kb, j, none⟩ := fun j => by unfold Addr.add; split <;> simp_all
  have hnews : ∀ (j : Nat) u, news[j]? = some u → w₁.cell? ((⟨kb, 0, none⟩ : Addr).add j) = some u := fun j u hu => by
    rw [hadd]; simp [World.cell?, hkc1, hu]
  have hzs : z91.cells.size = 3 := rfl
  have hmax : m + 1 ≤ maxLen := by simp only [maxLen]; omega
  obtain ⟨v', w', hrun, hrow', hgr, _⟩ := run_append_own (P := Tryz.prog) w₁ 0 44 o.type 91 i91 z91 3 32 (by kernel_rfl) info91 info91z info91s info91b hzs (by decide) v m xs hrow1.row ⟨kb, 0, none⟩ 1 1 news (by rw [hl]) hnews h1 hmax (by omega) (Nat.zero_le _)
  have hevs := events_append_where (P := Tryz.prog) w₁ 0 44 o.type 91 i91 z91 3 32 (by kernel_rfl) info91 info91z info91s info91b v m xs hrow1.row ⟨kb, 0, none⟩ 1 1 news (by rw [hl]) hnews h1 hmax (by omega)
  -- where it lies
  have hwhere : ∀ g, v'.ownBlock = some g → v.ownBlock = some g ∨ w₁.heap.size ≤ g := by
    rcases hrow1.row.2 with ⟨rfl, rfl⟩ | ⟨g, cap, cur, rfl, _, hgc, hmc, _, hcs, htk⟩
    · have hxs : xs = [] := List.eq_nil_of_length_eq_zero (by simpa using hrow1.row.1)
      subst hxs
      obtain ⟨v2, w2, hrun2, hrow2, _⟩ := run_append_own (P := Tryz.prog) w₁ w₁.heap.size 44 o.type 91 i91 z91 3 32 (by kernel_rfl) info91 info91z info91s info91b hzs (by decide) (.slice none 0 0) 0 [] (World.ownsRow_nil ..) ⟨kb, 0, none⟩ 1 1 news (by rw [hl]) hnews h1 hmax (by omega) (Nat.le_refl _)
      rw [hrun] at hrun2; cases hrun2
      intro g hg
      exact .inr (hrow2.lt g hg).1
    · by_cases hroom : m + 1 ≤ cap
      · have := run_append_room (P := Tryz.prog) w₁ 44 o.type 91 i91 (by kernel_rfl) info91 g m cap cur hgc ⟨kb, 0, none⟩ 1 1 news (by rw [hl, info91s]) hnews h1 hroom (by rw [info91s, hl, hcs]; omega)
        rw [hrun] at this; cases this
        exact fun g' hg' => .inl hg'
      · have holds := hrow1.row.cells (g := g) rfl
        have := run_append_grow (P := Tryz.prog) w₁ 44 o.type 91 i91 z91 (by kernel_rfl) info91 info91z ⟨g, 0, none⟩ m cap xs (by rw [info91s]; exact hrow1.row.1) holds ⟨kb, 0, none⟩ 1 1 news (by rw [hl, info91s]) hnews (by omega) (by simp only [maxLen] at hmax; omega) (growslice_fits (by omega) (by rw [info91b]; omega))
        rw [hrun] at this; cases this
        intro g' hg'
        simp [Value.ownBlock] at hg'
        subst hg'
        exact .inr (by simp [World.drew])
  have hex : (execOp a.eval o).run Tryz.prog w₁ = .ok (.value v') w' := by
    unfold execOp
    simp only [hop, resolve, invoke, builtin, Sem.run_bind, Sem.run_pure, Result.andThen_ok, List.map_toArray, List.map_cons, List.map_nil, ex, ey, hrun]
  have hev : (execOp a.eval o).events Tryz.prog w₁ #[] = (Builtin.append_ #[44, 44] o.type #[v, .slice (some ⟨kb, 0, none⟩) 1 1]).events Tryz.prog w₁ #[] := by
    unfold execOp
    simp only [hop, resolve, invoke, builtin, Sem.events_bind, Sem.run_pure, Sem.events_pure, Result.evThen_ok, List.map_toArray, List.map_cons, List.map_nil, ex, ey]
    cases (Builtin.append_ #[44, 44] o.type #[v, .slice (some ⟨kb, 0, none⟩) 1 1]).run Tryz.prog w₁ <;> rfl
  rw [hex]
  have hown : ∀ k, v.ownBlock = some k → O k := hrow.own
  refine ⟨⟨hgr.size, fun k hk hlt => hgr.block k hlt fun e => hk (hown k e.symm), hgr.os, hgr.output, fun e he => ?_⟩, ?_⟩
  · unfold listed at he
    have he := mem_seen he
    rw [hev] at he
    unfold EvO
    rcases hevs e he with ⟨ad, h2, h3⟩ | ⟨mk, h2, h3⟩
    · rw [h2]
      rcases h3 with ⟨_, h4⟩ | h4
      · exact .inl (by rw [h4]; exact hkO)
      · exact .inl (hown _ h4.symm)
    · rw [h2]; exact h3
  · refine h v' _ w' _ ⟨hrow', fun g hg => ?_⟩ (fun g hg => .inl hg) (by rw [hd]; exact hS.put hdn _)
    rcases hwhere g hg with h2 | h2
    · exact .inl (hown g h2)
    · exact .inr ⟨h2, (hrow'.lt g hg).2⟩
end
end Go.Lift

namespace Go.Lift
open Go.Conc Go.Proofs

def SB (c q : Nat) (v : Value) : List (Nat × Value) := [(7, v), (18, .chan (some c)), (6, .chan (some q))]
noncomputable def head15 (a : Act) (cs : List Frame) : Goroutine := G (b15.at a [.code loop15, .inLoop loop15, .inBlock 0, .code rest15]) cs
/-- a token's cells -/
def cellsT (x : Nat × Nat × List Nat) : List Value := [vI x.1, vI x.2.1, .string ⟨(x.2.2.map Nat.toUInt8).toArray⟩]
def cellsTs (l : List (Nat × Nat × List Nat)) : List Value := l.flatMap cellsT

/-- goroutine 0 is back from Lex -/
def LexStop (c0 : Frame) (cs : List Frame) (l : List (Nat × Nat × List Nat)) (O : Own) (g : Goroutine) (w : World) : Prop :=
  g.status = .running ∧ ∃ v, g = G (c0.finish (.tuple #[v, vI 0, vI 0])) cs ∧ RowO O w v l.length (cellsTs l)

def LexFi (c0 : Frame) (cs : List Frame) (q : Nat) (l : List (Nat × Nat × List Nat)) (W0 : World) (O : Own) (g : Goroutine) (w : World) : Prop :=
  Lift.Good g ∧ ((∃ s r tm, W0.heap[q]? = some (.chan 0 #[] false s r tm)) → w.heap[q]? = W0.heap[q]? → FinO Tryz.prog true (LexStop c0 cs l) (fun k => O k ∨ k = q) g w)

theorem good15 {c0 : Frame} {cs : List Frame} (hcs : CallersOk (c0 :: cs)) {a : Act} {k : List Item} (hk : TodoOk k) : Lift.Good (G (b15.at a k) (c0 :: cs)) := ⟨⟨hk, hcs⟩, .inl rfl⟩

set_option maxRecDepth 100000 in
set_option maxHeartbeats 1000000 in
theorem main_end {c q : Nat} {v : Value} {l : List (Nat × Nat × List Nat)} {c0 : Frame} {cs : List Frame} {O : Own} {w W0 : World} {a : Act} (hcs : CallersOk (c0 :: cs)) (hS : Sl (SB c q v) 36 [dQ q] a) (hrow : RowO O w v l.length (cellsTs l)) :
    RecvsO Tryz.prog c z93 (LexFi c0 cs q l W0) [] O (head15 a (c0 :: cs)) w := by
  rw [recvsO_iff]
  unfold head15
  refine F_seq (F_region ?_)
  refine (recvsO_iff ..).1 (recvs_end rfl (hS.wanted rfl) (by decide) (recv_run rfl Tryz.underlying87 ((hS.eval rfl).trans rfl) zero93) fun w₂ h₂ => ?_)
  have hrow2 := hrow.rely h₂
  have hS' := hS.put (d := 19) (by decide) (.tuple #[z93, .bool false])
  generalize hax : Act.put a (some 19) (.tuple #[z93, .bool false]) = ax at hS'
  show LexFi c0 cs q l W0 O (G (b15.at (Act.put a (some 19) (.tuple #[z93, .bool false])) _) _) w₂
  rw [hax]
  clear hax hS a
  refine ⟨good15 hcs (.cons trivial (.cons trivial (.cons trivial (.cons trivial (.cons trivial .nil))))), fun ⟨s, r, tm, hq⟩ hqq => ?_⟩
  have hqw := hqq.trans hq
  have hO : ∀ j, O j → (fun k => O k ∨ k = q) j := fun j h => .inl h
  have hrow3 : RowO (fun k => O k ∨ k = q) w₂ v l.length (cellsTs l) := hrow2.kp hO fun _ _ _ => rfl
  refine F_ops (fn := 15) rfl (by decide) ?_
  refine Yv.use hS' rfl rfl rfl rfl (by decide) (v := .bool false) (yv_extract rfl rfl rfl) fun a hS => opsO_nil ?_
  show FinO _ _ _ _ _ _
  refine F_seq (F_cond hS rfl rfl (F_exit rfl ?_))
  refine F_seq (F_wp (fn := 15) rfl (by decide) (wpO_region ?_))
  refine Yv.use hS rfl rfl rfl rfl (by decide) (yv_move (v := v) (.inl rfl) rfl) fun a hS => ?_
  refine Yv.use hS rfl rfl rfl rfl (by decide) (yv_move (v := v) (.inr rfl) rfl) fun a hS => ?_
  refine Yv.use hS rfl rfl rfl rfl (by decide) (yv_move (v := vI 0) (.inr rfl) rfl) fun a hS => ?_
  refine Yv.use hS rfl rfl rfl rfl (by decide) (yv_move (v := vI 0) (.inr rfl) rfl) fun a hS => opsO_nil ?_
  show FinO _ _ _ _ _ _
  refine F_ret ?_
  -- the deferred close
  have e : b15.at a [.code .ret] = (base 15).at ⟨a.tmps, [dQ q]⟩ [.code .ret] := by
    have := hS.defers
    cases a
    simp only at this
    subst this
    rfl
  rw [e]
  have hsl : ∀ t x, look ((4, vI 0) :: (3, vI 0) :: (2, v) :: []) t = some x → a.tmps[t]? = some x := fun t x h => by
    rcases look3 h with ⟨rfl, rfl⟩ | ⟨rfl, rfl⟩ | ⟨rfl, rfl⟩ <;> exact hS.slot _ _ rfl
  refine .of rfl fun w₁ h₁ => ⟨G { (base 15).at ⟨a.tmps, []⟩ [.code .ret] with mode := .returning } (c0 :: cs), w₁.shut q s r tm, #[⟨.obj q, false, true⟩, ⟨.obj q, true, true⟩], ?_, ?_, ?_⟩
  · have hq1 : w₁.heap[q]? = some (.chan 0 #[] false s r tm) := rely_heap h₁ (.inr rfl) hqw
    have hrun : (Builtin.close_ #[88] 0 #[.chan (some q)]).run Tryz.prog w₁ = .ok (.tuple #[]) (w₁.shut q s r tm) := by
      rw [run_close_open _ _ hq1]; rfl
    have hev : (Builtin.close_ #[88] 0 #[.chan (some q)]).events Tryz.prog w₁ #[] = #[⟨.obj q, false, true⟩, ⟨.obj q, true, true⟩] := by
      rw [events_close_open _ _ hq1]; rfl
    have hs : seen Tryz.prog 15 #[⟨.obj q, false, true⟩, ⟨.obj q, true, true⟩] = #[⟨.obj q, false, true⟩, ⟨.obj q, true, true⟩] :=
      seen_eq (by kernel_rfl) (by intro e he f; simp only [List.mem_toArray, List.mem_cons, List.not_mem_nil, or_false] at he; rcases he with rfl | rfl <;> simp)
    simp [G, stepG, unwind, callDeferred, Frame.at, dQ, dShut, invoke, builtin, hrun, hev, hs, base, GStep.after]
  · refine ⟨by simp [World.shut], fun k hk hlt => ?_, rfl, rfl, fun e he => ?_⟩
    · have : q ≠ k := fun e => hk (.inr e.symm)
      simp [World.shut, Array.getElem?_setIfInBounds_ne this]
    · simp at he
      rcases he with rfl | rfl <;> exact .inl (.inr rfl)
  · have hgs : Grow (fun k => O k ∨ k = q) w₁ (w₁.shut q s r tm) = fun k => O k ∨ k = q := grow_same (by simp [World.shut])
    rw [hgs]
    have hrow4 : RowO (fun k => O k ∨ k = q) (w₁.shut q s r tm) v l.length (cellsTs l) := by
      have h4 := hrow3.rely h₁
      have hq1 : w₁.heap[q]? = some (.chan 0 #[] false s r tm) := rely_heap h₁ (.inr rfl) hqw
      refine ⟨⟨h4.row.1, ?_⟩, h4.own⟩
      rcases h4.row.2 with h | ⟨g, cap, cur, e, k2, k3, k4⟩
      · exact .inl h
      · refine .inr ⟨g, cap, cur, e, k2, ?_, k4⟩
        have : q ≠ g := fun e => by subst e; rw [hq1] at k3; cases k3
        simp [World.shut, Array.getElem?_setIfInBounds_ne this, k3]
    refine .ctl rfl (fun w₂ => stepG_leave (b := base 15) (fn := Tryz.f15) (v := .tuple #[v, vI 0, vI 0]) rfl rfl Tryz.func15 ?_ ?_) ?_
    · simp only [results, Tryz.f15]
      simp
      exact ⟨by rw [hsl 2 v rfl]; rfl, by rw [hsl 3 (vI 0) rfl]; rfl, by rw [hsl 4 (vI 0) rfl]; rfl⟩
    · simp [results, Tryz.f15]
    · exact .stop fun w₂ h₂ => ⟨rfl, v, rfl, hrow4.rely h₂⟩

set_option maxRecDepth 100000 in
set_option maxHeartbeats 1000000 in
theorem main_round {c q : Nat} {v : Value} {x : Nat × Nat × List Nat} {vs : List Value} {xs : List Value} {n : Nat} {Fi : Own → Goroutine → World → Prop} {c0 : Frame} {cs : List Frame} {O : Own} {w : World} {a : Act} (hn : n ≤ 65536) (hS : Sl (SB c q v) 36 [dQ q] a) (hrow : RowO O w v n xs)
    (hnext : ∀ v' a' O' w', Sl (SB c q v') 36 [dQ q] a' → RowO O' w' v' (n + 1) (xs ++ cellsT x) → RecvsO Tryz.prog c z93 Fi vs O' (head15 a' (c0 :: cs)) w') :
    RecvsO Tryz.prog c z93 Fi (tokV x.1 x.2.1 ⟨(x.2.2.map Nat.toUInt8).toArray⟩ :: vs) O (head15 a (c0 :: cs)) w := by
  rw [recvsO_iff]
  unfold head15
  generalize ht : (⟨(x.2.2.map Nat.toUInt8).toArray⟩ : ByteArray) = tx
  refine F_seq (F_region ?_)
  refine (recvsO_iff ..).1 (recvs_recv rfl (hS.wanted rfl) (by decide) (recv_run rfl Tryz.underlying87 ((hS.eval rfl).trans rfl) zero93) fun w₂ h₂ => ?_)
  rw [recvsO_iff]
  have hrow2 := hrow.rely h₂
  have hS' := hS.put (d := 19) (by decide) (.tuple #[tokV x.1 x.2.1 tx, .bool true])
  refine F_ops (fn := 15) rfl (by decide) ?_
  generalize hax : Act.put a (some 19) (.tuple #[tokV x.1 x.2.1 tx, .bool true]) = ax at hS'
  show OpsO _ _ _ _ _ _ (Act.put a (some 19) (.tuple #[tokV x.1 x.2.1 tx, .bool true])) _ _
  rw [hax]
  clear hax hS a
  refine Yv.use hS' rfl rfl rfl rfl (by decide) (v := .bool true) (yv_extract rfl rfl rfl) fun a hS => opsO_nil ?_
  show FinO _ _ _ _ _ _
  refine F_seq (F_cond hS rfl rfl (F_skip ?_))
  refine F_block (F_seq (F_wp (fn := 15) rfl (by decide) (wpO_region ?_)))
  refine Yv.use hS rfl rfl rfl rfl (by decide) (v := tokV x.1 x.2.1 tx) (yv_extract rfl rfl rfl) fun a hS => ?_
  refine Yn.use hS rfl rfl rfl rfl (by decide) (yn_alloc rfl zero93) fun kx O1 w1 a q1 q2 q3 q4 q5 q6 q7 q8 hS => ?_
  have hrow3 : RowO O1 w1 v n xs := hrow2.kp q5 q7
  refine Yw.use q1 q4 hS rfl rfl rfl rfl (obj' := .cells #[vI x.1, vI x.2.1, .string tx, vI 0] 93 (0, 0)) (yw_store (off := 0) (vs := [vI x.1, vI x.2.1, .string tx, vI 0]) rfl size93 rfl rfl rfl (by simp [vI, Value.oneCell']) (Nat.le_of_ble_eq_true rfl)) fun w2 a g1 g2 g3 hS => opsO_nil ?_
  have hrow4 : RowO O1 w2 v n xs := by
    refine ⟨⟨hrow3.row.1, ?_⟩, hrow3.own⟩
    rcases hrow3.row.2 with h | ⟨g, cap, cur, e, k2, k3, k4⟩
    · exact .inl h
    · refine .inr ⟨g, cap, cur, e, k2, ?_, k4⟩
      have hgo : O g := hrow2.own g (by rw [e]; rfl)
      have hlt : g < w₂.heap.size := by
        rcases hrow2.row.2 with h | ⟨g', cap', cur', e', _, k3', _⟩
        · rw [h.1] at e; cases e
        · rw [e'] at e; cases e; exact (Array.getElem?_eq_some_iff.1 k3').1
      have hne : g ≠ kx := by omega
      exact (g2 g (q5 g hgo) hne (by omega)).trans k3
  show FinO _ _ _ _ _ _
  refine F_seq (F_seq (F_wp (fn := 15) rfl (by decide) (wpO_region ?_)))
  refine Yv.use hS rfl rfl rfl rfl (by decide) (v := vP kx 3) (fun w => ⟨by kernel_rfl, by kernel_rfl⟩) fun a hS => ?_
  refine Yl.use q1 g1 hS rfl rfl rfl rfl (by decide) (yl_load1 (off := 3) (v := vI 0) rfl agg34 rfl rfl) fun a hS => ?_
  refine Yv.use hS rfl rfl rfl rfl (by decide) (yv_cmp (q := false) rfl rfl rfl rfl) fun a hS => opsO_nil ?_
  show FinO _ _ _ _ _ _
  refine F_cond hS rfl rfl (F_skip ?_)
  refine F_wp (fn := 15) rfl (by decide) (wpO_region ?_)
  refine Yv.use hS rfl rfl rfl rfl (by decide) (yv_move (v := v) (.inl rfl) rfl) fun a hS => ?_
  refine Yv.use hS rfl rfl rfl rfl (by decide) (v := vP kx 0) (fun w => ⟨by kernel_rfl, by kernel_rfl⟩) fun a hS => ?_
  refine Yl.use q1 g1 hS rfl rfl rfl rfl (by decide) (v := .agg #[vI x.1, vI x.2.1, .string tx]) (yl_loadN (off := 0) (vs := [vI x.1, vI x.2.1, .string tx]) rfl agg91 size91 rfl rfl fun i v hi => ?_) fun a hS => ?_
  · match i, hi with
    | 0, hi => cases hi; rfl
    | 1, hi => cases hi; rfl
    | 2, hi => cases hi; rfl
  refine Yn.use hS rfl rfl rfl rfl (by decide) (mk := fun k => .slice (some ⟨k, 0, none⟩) 1 1) (obj := .cells #[vI x.1, vI x.2.1, .string tx] 91 (0, 0)) (fun w => ⟨by kernel_rfl, by kernel_rfl⟩) fun kb O2 w3 a r1 r2 r3 r4 r5 r6 r7 r8 hS => ?_
  have hrow5 : RowO O2 w3 v n xs := hrow4.kp r5 r7
  refine opsS_append (news := [vI x.1, vI x.2.1, .string tx]) hS rfl rfl rfl (by decide) rfl rfl rfl rfl rfl hrow5 r1 r4 rfl (by simp [vI, Value.oneCell']) hn fun v' O3 w4 a hrow6 hO3 hS => ?_
  refine Yv.use hS rfl rfl rfl rfl (by decide) (yv_move (v := v') (.inr rfl) rfl) fun a hS => opsO_nil ?_
  show FinO _ _ _ _ _ _
  refine F_inBlock (F_inLoop ?_)
  have := hnext v' a O3 w4 (hS.cut ⟨rfl, rfl, rfl, trivial⟩) (by subst ht; exact hrow6)
  rw [recvsO_iff] at this
  exact this

theorem main_all {c q : Nat} {c0 : Frame} {cs : List Frame} {W0 : World} (hcs : CallersOk (c0 :: cs)) {L : List (Nat × Nat × List Nat)} (hL : L.length ≤ 65536) : ∀ (l done : List (Nat × Nat × List Nat)) (v : Value) (O : Own) (w : World) (a : Act), L = done ++ l → Sl (SB c q v) 36 [dQ q] a → RowO O w v done.length (cellsTs done) →
    RecvsO Tryz.prog c z93 (LexFi c0 cs q L W0) (tokVs l) O (head15 a (c0 :: cs)) w
  | [], done, v, O, w, a, hl, hS, hrow => by
    rw [List.append_nil] at hl
    subst hl
    exact main_end hcs hS hrow
  | x :: l, done, v, O, w, a, hl, hS, hrow => by
    have hlen := congrArg List.length hl
    simp at hlen
    refine main_round (by omega) hS hrow fun v' a' O' w' hS' hrow' => ?_
    refine main_all hcs hL l (done ++ [x]) v' O' w' a' (by simp [hl]) hS' ?_
    simpa [cellsTs] using hrow'
end Go.Lift

namespace Go.Lift
open Go.Conc Go.Proofs

theorem lin_step {md : Region.Mode} {ops : Array Oper} {fuel t : Nat} {listed : Array Bool} {acc L : List Nat} {i : Nat}
    (h : ((List.range ops.size).filter fun i => !listed.getD i true && ((ops[i]?).map (·.after.all fun e => !Region.binds md e || listed.getD e.on false)).getD false) = L) (hi : L[t % L.length]? = some i) :
    Region.linearise.go md ops (fuel + 1) t listed acc = Region.linearise.go md ops fuel (t / L.length) (listed.setIfInBounds i true) (i :: acc) := by
  subst h
  simp only [Region.linearise.go, hi]

noncomputable def ops15 : Array Oper := match body15 with | .seq _ (.seq _ (.seq (.region _ o _) _)) => o | _ => #[]
theorem lin15 (t : Nat) : Region.linearise .any ops15 t = [0, 1, 2, 3] ∨ Region.linearise .any ops15 t = [0, 2, 1, 3] ∨ Region.linearise .any ops15 t = [1, 0, 2, 3] := by
  have h0 : Region.linearise .any ops15 t = Region.linearise.go .any ops15 4 t #[false, false, false, false] [] := rfl
  have hm : t % 2 = 0 ∨ t % 2 = 1 := by omega
  rcases hm with hm | hm
  · have hm2 : t / 2 % 2 = 0 ∨ t / 2 % 2 = 1 := by omega
    have h1 := lin_step (md := .any) (ops := ops15) (fuel := 3) (t := t) (listed := #[false, false, false, false]) (acc := []) (L := [0, 1]) (i := 0) (by kernel_rfl) (by simp [hm])
    rcases hm2 with hm2 | hm2
    · left
      have h2 := lin_step (md := .any) (ops := ops15) (fuel := 2) (t := t / 2) (listed := #[true, false, false, false]) (acc := [0]) (L := [1, 2]) (i := 1) (by kernel_rfl) (by simp [hm2])
      have h3 := lin_step (md := .any) (ops := ops15) (fuel := 1) (t := t / 2 / 2) (listed := #[true, true, false, false]) (acc := [1, 0]) (L := [2]) (i := 2) (by kernel_rfl) (by simp [Nat.mod_one])
      have h4 := lin_step (md := .any) (ops := ops15) (fuel := 0) (t := t / 2 / 2 / 1) (listed := #[true, true, true, false]) (acc := [2, 1, 0]) (L := [3]) (i := 3) (by kernel_rfl) (by simp [Nat.mod_one])
      exact h0.trans (h1.trans (h2.trans (h3.trans h4)))
    · right; left
      have h2 := lin_step (md := .any) (ops := ops15) (fuel := 2) (t := t / 2) (listed := #[true, false, false, false]) (acc := [0]) (L := [1, 2]) (i := 2) (by kernel_rfl) (by simp [hm2])
      have h3 := lin_step (md := .any) (ops := ops15) (fuel := 1) (t := t / 2 / 2) (listed := #[true, false, true, false]) (acc := [2, 0]) (L := [1]) (i := 1) (by kernel_rfl) (by simp [Nat.mod_one])
      have h4 := lin_step (md := .any) (ops := ops15) (fuel := 0) (t := t / 2 / 2 / 1) (listed := #[true, true, true, false]) (acc := [1, 2, 0]) (L := [3]) (i := 3) (by kernel_rfl) (by simp [Nat.mod_one])
      exact h0.trans (h1.trans (h2.trans (h3.trans h4)))
  · right; right
    have h1 := lin_step (md := .any) (ops := ops15) (fuel := 3) (t := t) (listed := #[false, false, false, false]) (acc := []) (L := [0, 1]) (i := 1) (by kernel_rfl) (by simp [hm])
    have h2 := lin_step (md := .any) (ops := ops15) (fuel := 2) (t := t / 2) (listed := #[false, true, false, false]) (acc := [1]) (L := [0]) (i := 0) (by kernel_rfl) (by simp [Nat.mod_one])
    have h3 := lin_step (md := .any) (ops := ops15) (fuel := 1) (t := t / 2 / 1) (listed := #[true, true, false, false]) (acc := [0, 1]) (L := [2]) (i := 2) (by kernel_rfl) (by simp [Nat.mod_one])
    have h4 := lin_step (md := .any) (ops := ops15) (fuel := 0) (t := t / 2 / 1 / 1) (listed := #[true, true, true, false]) (acc := [2, 0, 1]) (L := [3]) (i := 3) (by kernel_rfl) (by simp [Nat.mod_one])
    exact h0.trans (h1.trans (h2.trans (h3.trans h4)))

theorem F_yv {P : Program} {main : Bool} {Stop : Own → Goroutine → World → Prop} {b : Frame} {a : Act} {k : List Item} {cs : List Frame} {O : Own} {w : World} {ops : Array Oper} {i : Nat} {rest : List Nat} {S : List (Nat × Value)} {n : Nat} {ds : List Deferred} {o : Oper} (hk : b.kind ≠ .early) (hS : Sl S n ds a) (ho : ops[i]? = some o) (hw : wS S ops o = some true) (ht : toldAll S o = true) {d : Nat} (hd : o.dst = some d) (hdn : d < n) {v : Value}
    (hy : Yv P S o v) (h : ∀ a', Sl ((d, v) :: S) n ds a' → FinO P main Stop O (G (b.at a' (.inRegion ops rest :: k)) cs) w) : FinO P main Stop O (G (b.at a (.inRegion ops (i :: rest) :: k)) cs) w := by
  refine .of rfl fun w₁ h₁ => ⟨_, w₁, _, stepG_value ho (hS.wanted hw) hk (by rw [hS.exec ht]; exact (hy w₁).1), guar_nil (by unfold Conc.listed; rw [hS.exec ht, (hy w₁).2]; exact seen_none P _), ?_⟩
  rw [grow_same rfl]
  exact (h _ (by rw [hd]; exact hS.put hdn _)).rely h₁

theorem go_run {P : Program} {a : Act} {o : Oper} {f : FuncId} {xs : Array Operand} {ats : Array TypeId} {vs : Array Value} (hop : o.op = .go { callee := .value (.func f), args := xs, argTypes := ats }) (hv : xs.map a.eval = vs) (w : World) :
    (execOp a.eval o).run P w = .ok (.spawn (dcall f vs)) w ∧ (execOp a.eval o).events P w #[] = #[] := by
  have ef : a.eval (.func f) = .func (.func f) #[] #[] := rfl
  subst hv
  unfold execOp
  constructor
  · simp [hop, resolve, Deferred.ofValue, ef, dcall]
  · simp [hop, resolve, Deferred.ofValue, ef]

theorem atFork_of {P : Program} {c q : Nat} {z : Value} {Fi : World → Own → Goroutine → World → Prop} {vs : List Value} {O : Own} {b : Frame} {a : Act} {k : List Item} {cs : List Frame} {w : World} {ops : Array Oper} {i : Nat} {rest : List Nat} {o : Oper} {d0 : Deferred} {f : Fn} {cc : Array Value}
    (ho : ops[i]? = some o) (hw : Region.wanted o (yielded ops a.tmps) = true) (hk : b.kind ≠ .early) (hd : o.dst = none) (hr : ∀ w, (execOp a.eval o).run P w = .ok (.spawn d0) w ∧ (execOp a.eval o).events P w #[] = #[]) (ht : d0.target = .fn f cc)
    (hc : c < w.heap.size) (hq : q < w.heap.size) (hcq : q ≠ c) (hcc : ∃ s r tm, w.heap[c]? = some (.chan 0 #[] false s r tm)) (hqq : ∃ s r tm, w.heap[q]? = some (.chan 0 #[] false s r tm))
    (hR : ∀ d, RecvsO P c z (Fi (w.at d)) vs (fun _ => False) (G (b.at a (.inRegion ops rest :: k)) cs) (w.at d)) (hS : ∀ d, SendsO P c q vs (fun _ => False) (born P d0) (w.at d)) : AtFork P c q z Fi vs O (G (b.at a (.inRegion ops (i :: rest) :: k)) cs) w := by
  refine ⟨rfl, G (b.at a (.inRegion ops rest :: k)) cs, born P d0, #[], ?_, fun e he => by simp at he, hc, hq, hcq, hcc, hqq, hR, hS⟩
  rw [stepG_spawn ho hw hk (hr w).1 ht, listed_none (hr w).2, hd]
  rfl

def chan0 : Obj := .chan 0 #[] false 0 0 false

/-- ahead of the go statement -/
def AtGoS (c0 : Frame) (cs : List Frame) (L : List (Nat × Nat × List Nat)) (B : Nat) (O : Own) (g : Goroutine) (w : World) : Prop :=
  ∃ c q, B ≤ c ∧ B ≤ q ∧ ∀ d, AtFork Tryz.prog c q z93 (LexFi c0 cs q L) (tokVs L) O g (w.at d)

set_option maxRecDepth 100000 in
set_option maxHeartbeats 1000000 in
theorem fork15 {s : ByteArray} {c q : Nat} {c0 : Frame} {cs : List Frame} (hcs : CallersOk (c0 :: cs)) (hs : s.size ≤ 20000) {n : Nat} {L : List (Nat × Nat × List Nat)} (hl : Ai.lexT n (byt s) 0 = some L) (hL : L.length ≤ 65536) {B : Nat} {O : Own} {w : World} {a : Act} {k : List Item}
    (hk : k = [.code (match body15 with | .seq _ (.seq _ (.seq _ x)) => x | _ => .skip)])
    (hc : O c) (hq : O q) (hcB : B ≤ c) (hqB : B ≤ q) (hcq : q ≠ c) (hcc : w.heap[c]? = some chan0) (hqc : w.heap[q]? = some chan0) (hS : Sl [(5, .chan (some c)), (6, .chan (some q)), (0, .string s)] 36 [] a) :
    FinO Tryz.prog true (AtGoS c0 cs L B) O (G (b15.at a k) (c0 :: cs)) w := by
  subst hk
  refine F_seq (F_wp (fn := 15) rfl (by decide) (wpO_region ?_))
  refine Yv.use hS rfl rfl rfl rfl (by decide) (yv_move (v := .chan (some q)) (.inl rfl) rfl) fun a hS => ?_
  refine opsS_defer hS rfl rfl rfl rfl (d := dQ q) (fun w => ⟨by kernel_rfl, by kernel_rfl⟩) fun a hS => opsO_nil ?_
  show FinO _ _ _ _ _ _
  refine F_seq (F_region ?_)
  show FinO _ _ _ _ (G (b15.at a (.inRegion _ [0, 1, 2, 3] :: _)) _) _
  refine F_yv (by decide) hS rfl rfl rfl rfl (by decide) (yv_move (v := .string s) (.inl rfl) rfl) fun a hS => ?_
  refine F_yv (by decide) hS rfl rfl rfl rfl (by decide) (yv_move (v := .chan (some c)) (.inl rfl) rfl) fun a hS => ?_
  refine F_yv (by decide) hS rfl rfl rfl rfl (by decide) (yv_move (v := .chan (some q)) (.inl rfl) rfl) fun a hS => ?_
  refine .stop fun w₁ h₁ => ⟨c, q, hcB, hqB, fun d => ?_⟩
  have hc1 : w₁.heap[c]? = some chan0 := rely_heap h₁ hc hcc
  have hq1 : w₁.heap[q]? = some chan0 := rely_heap h₁ hq hqc
  have e15 : a.eval (.tmp 15) = .string s := (hS.eval rfl).trans rfl
  have e16 : a.eval (.tmp 16) = .chan (some c) := (hS.eval rfl).trans rfl
  have e17 : a.eval (.tmp 17) = .chan (some q) := (hS.eval rfl).trans rfl
  have hgo := fun o h w => go_run (P := Tryz.prog) (a := a) (o := o) (f := 39) (xs := #[.tmp 15, .tmp 16, .tmp 17]) (ats := #[9, 140, 141]) (vs := #[.string s, .chan (some c), .chan (some q)]) h (by simp [e15, e16, e17]) w
  refine atFork_of (d0 := dcall 39 #[.string s, .chan (some c), .chan (some q)]) rfl (hS.wanted rfl) (by decide) rfl (fun w => hgo _ rfl w) rfl (Array.getElem?_eq_some_iff.1 hc1).1 (Array.getElem?_eq_some_iff.1 hq1).1 hcq ⟨0, 0, false, hc1⟩ ⟨0, 0, false, hq1⟩ (fun d2 => ?_) (fun d2 => scan_born hs hl _)
  · rw [recvsO_iff]
    have hS2 := hS
    refine .ctl rfl (fun _ => stepG_region_end) ?_
    refine F_seq (F_wp (fn := 15) rfl (by decide) (wpO_region ?_))
    refine Yv.use hS2 rfl rfl rfl rfl (by decide) (yv_move (v := .slice none 0 0) (.inr rfl) rfl) fun a hS => opsO_nil ?_
    show FinO _ _ _ _ _ _
    refine F_seq (F_seq (F_wp (fn := 15) rfl (by decide) (wpO_region ?_)))
    refine Yv.use hS rfl rfl rfl rfl (by decide) (yv_move (v := .chan (some c)) (.inl rfl) rfl) fun a hS => opsO_nil ?_
    show FinO _ _ _ _ _ _
    refine F_block (F_loop ?_)
    have := main_all (c := c) (q := q) (W0 := (w₁.at d).at d2) hcs hL L [] (.slice none 0 0) (fun _ => False) ((w₁.at d).at d2) a rfl (hS.cut ⟨rfl, rfl, rfl, trivial⟩) (RowO.nil _ _)
    rw [recvsO_iff] at this
    exact this
set_option maxRecDepth 100000 in
set_option maxHeartbeats 1000000 in
theorem lex_enter {s : ByteArray} {c0 : Frame} {cs : List Frame} (hcs : CallersOk (c0 :: cs)) (hs : s.size ≤ 20000) {n : Nat} {L : List (Nat × Nat × List Nat)} (hl : Ai.lexT n (byt s) 0 = some L) (hL : L.length ≤ 65536) (w : World) :
    FinO Tryz.prog true (AtGoS c0 cs L w.heap.size) (fun _ => False) (G (Frame.enter Tryz.prog 15 #[.string s] .normal) (c0 :: cs)) w := by
  rw [enter_at (c := body15) _ Tryz.func15 rfl]
  have hS : Sl [(0, .string s)] 36 [] (⟨#[.string s] ++ Array.replicate (Tryz.f15.ntmps - (#[.string s] : Array Value).size) undef, []⟩ : Act) :=
    sl_enter (args := #[.string s]) _ (fun t v h => by obtain ⟨rfl, rfl⟩ := look1 h; rfl) (Nat.le_of_ble_eq_true rfl)
  revert hS
  generalize (⟨#[.string s] ++ Array.replicate (Tryz.f15.ntmps - (#[.string s] : Array Value).size) undef, []⟩ : Act) = a
  intro hS
  show FinO _ _ _ _ (G (b15.at a _) _) _
  refine F_seq (F_wp (fn := 15) rfl (by decide) (wpO_region ?_))
  refine Yv.use hS rfl rfl rfl rfl (by decide) (yv_move (v := .slice none 0 0) (.inr rfl) rfl) fun a hS => ?_
  refine Yv.use hS rfl rfl rfl rfl (by decide) (yv_move (v := vI 0) (.inr rfl) rfl) fun a hS => ?_
  refine Yv.use hS rfl rfl rfl rfl (by decide) (yv_move (v := vI 0) (.inr rfl) rfl) fun a hS => opsO_nil ?_
  show FinO _ _ _ _ _ _
  refine F_seq (F_seq (F_wp (fn := 15) rfl (by decide) (wpO_region ?_)))
  refine Yv.use hS rfl rfl rfl rfl (by decide) (yv_move (v := .string s) (.inl rfl) rfl) fun a hS => ?_
  refine Yv.use hS rfl rfl rfl rfl (by decide) (yv_len_str (s := s) rfl rfl rfl rfl Tryz.underlying9 rfl) fun a hS => ?_
  refine Yv.use hS rfl rfl rfl rfl (by decide) (yv_cmp (q := false) rfl rfl rfl (congrArg some (decide_eq_false (by omega)))) fun a hS => opsO_nil ?_
  show FinO _ _ _ _ _ _
  refine F_cond hS rfl rfl (F_skip ?_)
  refine F_seq (F_wp (fn := 15) rfl (by decide) (wpO_region_draw mixed fun t => ?_))
  show OpsO _ _ _ ops15 (Region.linearise .any ops15 t) _ _ _ _
  rcases lin15 t with e | e | e
  · rw [e]
    refine Yn.use hS rfl rfl rfl rfl (by decide) (mk := fun k => .chan (some k)) (obj := chan0) (fun w => ⟨by kernel_rfl, by kernel_rfl⟩) fun c O1 w1 a p1 p2 p3 p4 p5 p6 p7 p8 hS => ?_
    refine Yn.use hS rfl rfl rfl rfl (by decide) (mk := fun k => .chan (some k)) (obj := chan0) (fun w => ⟨by kernel_rfl, by kernel_rfl⟩) fun q O2 w2 a q1 q2 q3 q4 q5 q6 q7 q8 hS => ?_
    refine Yv.use hS rfl rfl rfl rfl (by decide) (yv_move (v := .chan (some c)) (.inr rfl) rfl) fun a hS => ?_
    refine Yv.use hS rfl rfl rfl rfl (by decide) (yv_move (v := .chan (some q)) (.inr rfl) rfl) fun a hS => opsO_nil ?_
    exact fork15 hcs hs hl hL rfl (q5 _ p1) q1 p2 (by omega) (by omega) ((q7 c p1 p3).trans p4) q4 (hS.cut ⟨rfl, rfl, rfl, trivial⟩)
  · rw [e]
    refine Yn.use hS rfl rfl rfl rfl (by decide) (mk := fun k => .chan (some k)) (obj := chan0) (fun w => ⟨by kernel_rfl, by kernel_rfl⟩) fun c O1 w1 a p1 p2 p3 p4 p5 p6 p7 p8 hS => ?_
    refine Yv.use hS rfl rfl rfl rfl (by decide) (yv_move (v := .chan (some c)) (.inr rfl) rfl) fun a hS => ?_
    refine Yn.use hS rfl rfl rfl rfl (by decide) (mk := fun k => .chan (some k)) (obj := chan0) (fun w => ⟨by kernel_rfl, by kernel_rfl⟩) fun q O2 w2 a q1 q2 q3 q4 q5 q6 q7 q8 hS => ?_
    refine Yv.use hS rfl rfl rfl rfl (by decide) (yv_move (v := .chan (some q)) (.inr rfl) rfl) fun a hS => opsO_nil ?_
    exact fork15 hcs hs hl hL rfl (q5 _ p1) q1 p2 (by omega) (by omega) ((q7 c p1 p3).trans p4) q4 (hS.cut ⟨rfl, rfl, rfl, trivial⟩)
  · rw [e]
    refine Yn.use hS rfl rfl rfl rfl (by decide) (mk := fun k => .chan (some k)) (obj := chan0) (fun w => ⟨by kernel_rfl, by kernel_rfl⟩) fun q O1 w1 a p1 p2 p3 p4 p5 p6 p7 p8 hS => ?_
    refine Yn.use hS rfl rfl rfl rfl (by decide) (mk := fun k => .chan (some k)) (obj := chan0) (fun w => ⟨by kernel_rfl, by kernel_rfl⟩) fun c O2 w2 a q1 q2 q3 q4 q5 q6 q7 q8 hS => ?_
    refine Yv.use hS rfl rfl rfl rfl (by decide) (yv_move (v := .chan (some c)) (.inr rfl) rfl) fun a hS => ?_
    refine Yv.use hS rfl rfl rfl rfl (by decide) (yv_move (v := .chan (some q)) (.inr rfl) rfl) fun a hS => opsO_nil ?_
    exact fork15 hcs hs hl hL rfl q1 (q5 _ p1) (by omega) p2 (by omega) q4 ((q7 q p1 p3).trans p4) (hS.cut ⟨rfl, rfl, rfl, trivial⟩)
end Go.Lift
