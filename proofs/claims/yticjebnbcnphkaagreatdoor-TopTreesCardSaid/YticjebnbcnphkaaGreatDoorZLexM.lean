/- A part of the proof that the abstract interpreter is sound, and of the two goroutines of the lexer. -/
import Derived.Test.YticjebnbcnphkaaGreatDoorZLexH
import Derived.Test.YticjebnbcnphkaaGreatDoorZF18

set_option linter.unusedSimpArgs false
set_option linter.unusedVariables false
set_option linter.unusedSectionVars false

namespace Go.Lift
open Go.Conc Go.Proofs

/-- what is to be reached: ahead of Lex, the run that ends well; behind it, the lone run to the answer -/
def okG (P : Program) (Post : Value → World → Prop) (n : Nat) (m : Machine) : Prop :=
  ∃ k a w, runN P k m = .next (solo a w) ∧ (match n with | 0 => AtLex P Post a w | _ + 1 => AtDone P Post a w)
def goalG (P : Program) (Post : Value → World → Prop) : Ai.Goal P := ⟨okG P Post, fun {n m m'} hs ⟨k, a, w, h1, h2⟩ => ⟨k + 1, a, w, by rw [runN_step, hs]; exact h1, h2⟩⟩

theorem lexT_small {B : Nat} : ∀ (n : Nat) (s : List Nat) (p : Nat) (l : List (Nat × Nat × List Nat)), Ai.lexT n s p = some l → (∀ c ∈ s, c < B) → (∀ x ∈ l, ∀ c ∈ x.2.2, c < B) ∧ l.length ≤ s.length
  | 0, s, p, l, h, hs => by
    cases s with
    | nil => cases h; simp
    | cons c r => cases h
  | n + 1, s, p, l, h, hs => by
    cases s with
    | nil => simp only [Ai.lexT, Option.some.injEq] at h; subst h; simp
    | cons c r =>
      have hr : ∀ x ∈ r, x < B := fun x hx => hs x (by simp [hx])
      have hdk : ∀ pr : Nat → Bool, (∀ x ∈ Ai.dk pr r, x < B) ∧ (Ai.dk pr r).length ≤ r.length ∧ ∀ x ∈ Ai.tk pr r, x < B := fun pr => by
        have e := tk_dk pr r
        refine ⟨fun x hx => hr x (by rw [← e]; simp [hx]), ?_, fun x hx => hr x (by rw [← e]; simp [hx])⟩
        have := congrArg List.length e
        rw [List.length_append] at this; omega
      simp only [Ai.lexT] at h
      cases h1 : Ai.isW c with
      | true =>
        rw [h1] at h
        obtain ⟨l', e1, rfl⟩ := consO_some h
        obtain ⟨g1, g2⟩ := lexT_small n _ _ l' e1 (hdk _).1
        refine ⟨fun x hx => ?_, by simp; have := (hdk Ai.isW).2.1; omega⟩
        rcases List.mem_cons.1 hx with rfl | hx
        · intro y hy
          rcases List.mem_cons.1 hy with rfl | hy
          · exact hs _ (by simp)
          · exact (hdk Ai.isW).2.2 y hy
        · exact g1 x hx
      | false =>
        rw [h1] at h
        cases h2 : Ai.isB c with
        | true =>
          rw [h2] at h
          obtain ⟨g1, g2⟩ := lexT_small n _ _ l h (hdk _).1
          exact ⟨g1, by simp; have := (hdk Ai.isB).2.1; omega⟩
        | false =>
          rw [h2] at h
          have one : ∀ kd l', l = (kd, p, [c]) :: l' → Ai.lexT n r (p + 1) = some l' → (∀ x ∈ l, ∀ c ∈ x.2.2, c < B) ∧ l.length ≤ (c :: r).length := fun kd l' e e1 => by
            subst e
            obtain ⟨g1, g2⟩ := lexT_small n _ _ l' e1 hr
            refine ⟨fun x hx => ?_, by simp; omega⟩
            rcases List.mem_cons.1 hx with rfl | hx
            · intro y hy; simp at hy; subst hy; exact hs _ (by simp)
            · exact g1 x hx
          cases h3 : Nat.beq c 40 with
          | true =>
            rw [h3] at h
            obtain ⟨l', e1, e2⟩ := consO_some h
            exact one _ l' e2 e1
          | false =>
            rw [h3] at h
            cases h4 : Nat.beq c 41 with
            | true =>
              rw [h4] at h
              obtain ⟨l', e1, e2⟩ := consO_some h
              exact one _ l' e2 e1
            | false => rw [h4] at h; cases h

theorem rowsR_tok (σ : Ai.Sub) : ∀ l : List (Nat × Nat × List Nat), (∀ x ∈ l, ∀ c ∈ x.2.2, c < 256) → Ai.RowsR σ 3 (l.map Ai.tokA) (cellsTs l)
  | [], _ => Ai.RowsR.nil σ 3
  | x :: l, h => by
    have : cellsTs (x :: l) = cellsT x ++ cellsTs l := by simp [cellsTs]
    rw [List.map_cons, this]
    refine Ai.RowsR.cons rfl rfl ?_ (rowsR_tok σ l fun y hy => h y (by simp [hy]))
    exact .cons (.nat .i64 x.1) (.cons (.nat .i64 x.2.1) (.cons (.str x.2.2 (h x (by simp))) .nil))

theorem byt_bytes {s : List Nat} (h : ∀ c ∈ s, c < 256) : byt (Ai.AV.bytes s) = s := by
  unfold byt Ai.AV.bytes
  simp only [List.map_map]
  conv => rhs; rw [← List.map_id s]
  exact List.map_congr_left fun x hx => by simp; exact h x hx

theorem enters15 : Ai.Enters Tryz.prog 15 := ⟨Tryz.f15, by kernel_rfl, rfl, by rfl⟩

theorem lex_sound (hP : Plain Tryz.prog) {Post : Value → World → Prop} (args : List Ai.AV) (A : Ai.AH) (K H : Ai.KV) (hk : Ai.sLex args A K = true) : Ai.CallS (goalG Tryz.prog Post) 15 args A K H := by
  unfold Ai.sLex at hk
  split at hk
  case h_2 => cases hk
  rename_i sv
  obtain ⟨s, e1, h1⟩ := Ai.asStr_t.1 hk
  obtain ⟨h2, h3⟩ := Ai.and_t.1 h1
  obtain ⟨h4, h5⟩ := Ai.and_t.1 h3
  obtain ⟨L, hl, h6⟩ := Ai.optK_t.1 h5
  obtain ⟨h7, h8⟩ := Ai.and_t.1 h6
  obtain ⟨h65, hn, hK⟩ := Ai.newSlc_t h8
  have hph : A.ph = 0 := Nat.eq_of_beq_eq_true h2
  have hsl : s.length ≤ 20000 := Nat.le_of_ble_eq_true h4
  have hpos : 0 < L.length := by simpa using h7
  subst e1
  refine ⟨enters15, fun σ w vs c0 cs hvs hA hKV _ => ?_⟩
  obtain ⟨x, rfl, hx⟩ : ∃ x, vs = #[x] ∧ Ai.VRel σ (.str s) x := by
    generalize hls : vs.toList = ls at hvs
    cases hvs with
    | cons h hs => cases hs; exact ⟨_, Array.toList_inj.1 hls, h⟩
  obtain ⟨ex, hs256⟩ := Ai.str_inv hx
  subst ex
  have hbyt := byt_bytes hs256
  have hsz : (Ai.AV.bytes s).size ≤ 20000 := by rw [← byt_len, hbyt]; exact hsl
  obtain ⟨hsmall, hlen⟩ := lexT_small (B := 256) _ _ _ _ hl hs256
  have hL : L.length ≤ 65536 := by omega
  rw [hph]
  refine ⟨0, _, w, rfl, rfl, fun hg τ d sl t hT hD => ?_⟩
  have hcs : CallersOk (c0 :: cs) := hg.1.2
  obtain ⟨N, a', w', O', sl', t', g1, ⟨c, q, hcB, hqB, hAF⟩, g3, g4, g5⟩ := finO_solo (lex_enter hcs hsz (by rw [hbyt]; exact hl) hL w) (on w τ d) ⟨Nat.le_refl _, fun _ _ _ => rfl, rfl, rfl⟩ (fun _ _ => rfl) rfl sl t (fun O g w ⟨_, _, _, _, h⟩ => (h 0).1) hT hD
  refine .after g1 ?_
  obtain ⟨d2, hR⟩ := fork_reach (sl := sl') hAF g3 g4
  refine reach_ends hP hR fun O0 O1 a2 w2 ⟨hg2, hF⟩ hE => ?_
  have hcw : c < w'.heap.size := (hAF 0).2.choose_spec.choose_spec.choose_spec.2.2.1
  have hqw : q < w'.heap.size := (hAF 0).2.choose_spec.choose_spec.choose_spec.2.2.2.1
  have hqc : q ≠ c := (hAF 0).2.choose_spec.choose_spec.choose_spec.2.2.2.2.1
  have hqo := (hAF d2).2.choose_spec.choose_spec.choose_spec.2.2.2.2.2.2.1
  have hF2 := hF hqo (hE.old q hqw hqc)
  have hrun2 : a2.status = .running := hF2.running fun _ _ _ h => h.1
  refine runs_fin hP hg2 hrun2 fun τ2 e2 => ?_
  obtain ⟨N2, a3, w3, O3, k1, ⟨_, v, rfl, hrow⟩, k3⟩ := finO_lone hF2 (on w2 τ2 e2) ⟨Nat.le_refl _, fun _ _ _ => rfl, rfl, rfl⟩
  -- the heap below is as it was
  have hsz1 : w.heap.size ≤ w'.heap.size := g5.size
  have hsz2 : w'.heap.size ≤ w2.heap.size := hE.size
  have hsz3 : w2.heap.size ≤ w3.heap.size := k3.size
  have hkeep : ∀ k, k < w.heap.size → w3.heap[k]? = w.heap[k]? := fun k hk => by
    have s1 : w3.heap[k]? = w2.heap[k]? := k3.keep k (fun h => by
      rcases h with h | h
      · have := (hE.b0 k h).1; omega
      · omega) (by show k < w2.heap.size; omega)
    have s2 : w2.heap[k]? = w'.heap[k]? := hE.old k (by omega) (by omega)
    have s3 : w'.heap[k]? = w.heap[k]? := g5.keep k (fun h => h) hk
    exact s1.trans (s2.trans s3)
  have hos : w3.os = w.os := k3.os.trans (hE.os.trans g5.os)
  have hout : w3.output = w.output := k3.out.trans (hE.out.trans g5.out)
  -- the row of tokens
  obtain ⟨g, cap, cur, rfl, _, hgc, hncap, _, hcs3, htk⟩ : ∃ g cap cur, v = .slice (some ⟨g, 0, none⟩) L.length cap ∧ 0 ≤ g ∧ w3.heap[g]? = some (.cells cur 91 (0, 0)) ∧ L.length ≤ cap ∧ cap ≤ maxLen ∧ cur.size = cap * 3 ∧ cur.toList.take (L.length * 3) = cellsTs L := by
    rcases hrow.row.2 with ⟨_, h⟩ | h
    · omega
    · exact h
  have hg1 : w.heap.size ≤ g := by
    rcases k3.sub g (hrow.own g rfl) with h | h
    · rcases h with h | h
      · have := (hE.b0 g h).1; omega
      · omega
    · have : w2.heap.size ≤ g := h
      omega
  have hg2' : g < w3.heap.size := (Array.getElem?_eq_some_iff.1 hgc).1
  have hA1 := hA.lexed
  have hrowR := fun σ' => rowsR_tok σ' L hsmall
  have hclen : (cellsTs L).length = L.length * 3 := by
    have := (hrowR σ).size
    simpa using this
  have horel : Ai.ORel (σ.upd A.lexed.next g 0 3 cur.size) w3 g 0 3 (.row 3 L.length (Ai.trOf 0 (L.map Ai.tokA) .lf)) :=
    Ai.new_row (by decide) (by simp) hL hgc (Ai.Sub.upd_top ..) (hrowR _) fun i y hy => by
      rw [← htk, List.getElem?_take] at hy
      split at hy
      · simpa using hy
      · cases hy
  obtain ⟨r1, r2⟩ := Ai.place_ext hA1 hkeep (by omega) hos hout hn hg1 hg2' horel
  have hv : Ai.VRel (σ.upd A.lexed.next g 0 3 cur.size) (.tuple [.slc A.lexed.next 0 L.length none, .nat .i64 0, .nat .i64 0]) (.tuple #[.slice (some ⟨g, 0, none⟩) L.length cap, vI 0, vI 0]) := by
    refine .tuple _ _ _ _ (.cons ?_ (.cons (.nat .i64 0) (.cons (.nat .i64 0) .nil)))
    refine .slc _ 0 _ none _ _ (by rw [Ai.Sub.upd_self]; simp) (fun cb base sz h => ?_) (fun x h => by cases h) hncap (fun cb base sz h => ?_)
    · rw [Ai.Sub.upd_self] at h; cases h; rfl
    · rw [Ai.Sub.upd_self] at h; cases h
      exact ⟨cur.size, Ai.Sub.upd_top .., by rw [hcs3]; omega⟩
  obtain ⟨k5, a5, w5, m1, m2⟩ := hKV _ _ _ _ w3 hK r2.lexed r1 hv
  have hph1 : (A.lexed.new (.row 3 L.length (Ai.trOf 0 (L.map Ai.tokA) .lf))).ph = 1 := by cases A; rfl
  rw [hph1] at m2
  refine ⟨N2 + k5, a5, w5, ?_, m2⟩
  rw [runN_add, k1]
  exact m1
end Go.Lift
