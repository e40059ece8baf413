/- A region that draws its order, of which one operation makes or writes memory: what comes ahead of it only reads, and so does what comes behind it: one walk in the text's order serves every order. No function of the program is named here. -/
import Derived.Test.YteldkcpkamgfpaaDoorEa
import Derived.StillTail
namespace Go.Proofs.YteldkcpkamgfpaaDoor
set_option linter.unusedSimpArgs false
set_option linter.unusedVariables false
open Go.RowKit

section
variable {F : Fence} {n : Nat} {P : Program} {ops : Array Oper} {C : World → Prop} {md : Region.Mode}

/-- each operation behind number k waits for one from k on -/
def midChain (md : Region.Mode) (ops : Array Oper) (k : Nat) : Bool :=
  (List.range ops.size).all fun t => decide (t ≤ k) || (List.range t).any fun j => decide (k ≤ j) && Region.waitsFor md ops t j
/-- the head by its own order; then k alone; then the rest by its own order -/
def midHead (md : Region.Mode) (ops : Array Oper) (k : Nat) : Nat → Nat → Array Bool → Bool
  | 0, _, listed => decide (Region.ready md ops listed = [k]) && Region.lexFrom md ops (ops.size - (k + 1)) (k + 1) (listed.setIfInBounds k true)
  | f + 1, i, listed => (Region.ready md ops listed).contains i && Region.free md ops listed i && midHead md ops k f (i + 1) (listed.setIfInBounds i true)
def midB (md : Region.Mode) (ops : Array Oper) (k : Nat) : Bool :=
  Region.noSelect ops && decide (k < ops.size) && Region.sinkB md ops k && midChain md ops k && midHead md ops k k 0 (Array.replicate ops.size false)

/-- as long as one of the head is left, none from k on comes up -/
theorem mid_waits {k : Nat} {listed : Array Bool} (hs : Region.sinkB md ops k = true) (hc : midChain md ops k = true) (hn : k < ops.size) (inv : HeadInv md ops k listed) :
    ∀ (d i : Nat), k - i = d → i < k → listed.getD i true = false → ∀ t, k ≤ t → t ∉ Region.ready md ops listed := by
  intro d
  induction d using Nat.strongRecOn with
  | _ d ih =>
    intro i hd hi hun t ht hr
    obtain ⟨_, ot, hot, hall⟩ := mem_ready.1 hr
    have htlt : t < ops.size := (Array.getElem?_eq_some_iff.1 hot).1
    have listedNot : ∀ x, listed.getD x true = false → ¬ listed.getD x false = true := fun x hx h => by
      have := getD_both hx
      rw [this] at h
      cases h
    have waits : ∀ x, listed.getD x true = false → Region.waitsFor md ops t x = true → False := fun x hx hw => by
      obtain ⟨o', ho', e, he, hb, hon⟩ := Region.waitsFor_spec hw
      obtain rfl : o' = ot := Option.some.inj (ho'.symm.trans hot)
      have h := hall e he hb
      rw [hon] at h
      exact listedNot x hx h
    rcases Nat.eq_or_lt_of_le ht with rfl | hgt
    · obtain ⟨j, hj, hj2⟩ := List.any_eq_true.1 (List.all_eq_true.1 hs i (List.mem_range.2 hi))
      simp only [Bool.and_eq_true, decide_eq_true_eq] at hj2
      have hjr := List.mem_range.1 hj
      by_cases hjk : j = k
      · subst hjk; exact waits i hun hj2.2
      · cases hl : listed.getD j false with
        | true =>
          obtain ⟨oj, hoj, e, he, hb, hon⟩ := Region.waitsFor_spec hj2.2
          have h := inv.closed j oj hoj hl e he hb
          rw [hon] at h
          exact listedNot i hun h
        | false =>
          exact ih (k - j) (by omega) j rfl (by omega) (getD_in (by rw [inv.size]; omega) hl) k (Nat.le_refl _) hr
    · have h1 := List.all_eq_true.1 hc t (List.mem_range.2 htlt)
      simp only [Bool.or_eq_true, decide_eq_true_eq] at h1
      rcases h1 with h1 | h1
      · omega
      · obtain ⟨j, hj, hj2⟩ := List.any_eq_true.1 h1
        simp only [Bool.and_eq_true, decide_eq_true_eq] at hj2
        have hjr := List.mem_range.1 hj
        exact waits j (inv.tail j hj2.1 (by omega)) hj2.2

/-- the head, whatever order is picked -/
def wpHeadQ (F : Fence) (n : Nat) (P : Program) (md : Region.Mode) (ops : Array Oper) (C : World → Prop) (k : Nat) (L : Array Bool → Act → Prop) : Nat → Array Bool → Act → Prop
  | 0, listed, a => L listed a
  | f + 1, listed, a => Region.ready md ops listed ≠ [] ∧ ∀ i ∈ Region.ready md ops listed, i < k ∧ qOpIn F n P ops C i (wpHeadQ F n P md ops C k L f (listed.setIfInBounds i true)) a

theorem any_of_head {k g : Nat} {L : Array Bool → Act → Prop} {Q' : Exit → Act → World → Prop} (hnd : ∀ (i : Nat) (o : Oper), ops[i]? = some o → ∀ c, o.op ≠ .defer c)
    (hL : ∀ listed a w, C w → L listed a → wpAnyIn F n P md ops Q' g listed a w) :
    ∀ (f : Nat) (listed : Array Bool) (a : Act) (w : World), C w → wpHeadQ F n P md ops C k L f listed a → wpAnyIn F n P md ops Q' (f + g) listed a w
  | 0, listed, a, w, hw, h => by rw [Nat.zero_add]; exact hL _ _ _ hw h
  | f + 1, listed, a, w, hw, h => by
    rw [show f + 1 + g = (f + g) + 1 from by omega]
    exact ⟨fun h0 => absurd h0 h.1, fun i hi => wpOpIn_of_qOpInR hnd hw (fun a' w' hw' h' => any_of_head hnd hL f _ a' w' hw' h') (h.2 i hi).2⟩

theorem head_first {k i : Nat} {oi : Oper} {v : Value} {L : Array Bool → Act → Prop} (hi : ops[i]? = some oi) (hsel : ∀ (j : Nat) (o : Oper) cs b, ops[j]? = some o → o.op ≠ .select cs b)
    (hs : Region.sinkB md ops k = true) (hc : midChain md ops k = true) (hn : k < ops.size) (hik : i < k) (hdone : ∀ listed a, L listed a → ∀ j ∈ Region.ready md ops listed, k ≤ j) :
    ∀ (f : Nat) (listed : Array Bool) (a : Act), HeadInv md ops k listed →
      (∀ j oj, ops[j]? = some oj → j ≠ i → listed.getD j true = false → (∀ e ∈ oj.after, Region.binds md e = true → e.on ≠ i) → oi.apart ops oj = true) →
      i ∈ Region.ready md ops listed → YieldsQuiet F n P ops C oi v a →
      wpHeadQ F n P md ops C k L f (listed.setIfInBounds i true) (a.put oi.dst v) → wpHeadQ F n P md ops C k L (f + 1) listed a := by
  intro f
  induction f with
  | zero =>
    intro listed a inv _ hr hy H
    have hun := (mem_ready.1 hr).1
    refine ⟨fun h => (by rw [h] at hr; cases hr), fun j hj => ?_⟩
    have hjk : j < k := Nat.lt_of_not_le fun h => mid_waits hs hc hn inv _ i rfl hik hun j h hj
    refine ⟨hjk, ?_⟩
    by_cases hji : j = i
    · subst hji; exact hy.qOpIn hi H
    · have := hdone _ _ H j (ready_mono hj hji)
      omega
  | succ f ih =>
    intro listed a inv hfree hr hy H
    have hun := (mem_ready.1 hr).1
    refine ⟨fun h => (by rw [h] at hr; cases hr), fun j hj => ?_⟩
    have hjk : j < k := Nat.lt_of_not_le fun h => mid_waits hs hc hn inv _ i rfl hik hun j h hj
    refine ⟨hjk, ?_⟩
    by_cases hji : j = i
    · subst hji; exact hy.qOpIn hi H
    · obtain ⟨hjun, oj, hoj, hall⟩ := mem_ready.1 hj
      have hnot : ∀ e ∈ oj.after, Region.binds md e = true → e.on ≠ i := fun e he hb heq => by
        have h1 := hall e he hb
        rw [heq, getD_both hun] at h1
        cases h1
      have h2 := qOpIn_put hoj (hfree j oj hoj hji hjun hnot) (fun cs b => hsel i oi cs b hi) (fun cs b => hsel j oj cs b hoj) hy (H.2 j (ready_mono hj hji)).2
      have hfree' : ∀ m om, ops[m]? = some om → m ≠ i → (listed.setIfInBounds j true).getD m true = false →
          (∀ e ∈ om.after, Region.binds md e = true → e.on ≠ i) → oi.apart ops om = true := fun m om hm hmi hmun hno => by
        refine hfree m om hm hmi ?_ hno
        by_cases hjm : j = m
        · subst hjm; exact hjun
        · rwa [getD_set_ne true hjm] at hmun
      refine qOpIn_mono (fun a' h3 => ih (listed.setIfInBounds j true) a' (inv.set hj hjk) hfree' (ready_mono hr (Ne.symm hji)) h3.1 ?_) h2
      rw [Array.setIfInBounds_comm _ _ hji]
      exact h3.2

theorem head_lex {k : Nat} {Lq : Act → Prop} (hsel : Region.noSelect ops = true) (hs : Region.sinkB md ops k = true) (hc : midChain md ops k = true) (hn : k < ops.size) :
    ∀ (l : List Oper) (i : Nat) (listed : Array Bool) (a : Act), (∀ j, j < l.length → l[j]? = ops[i + j]?) → i + l.length = k → HeadInv md ops k listed →
      midHead md ops k l.length i listed = true → wpQuietIn F n P ops C Lq l a →
      wpHeadQ F n P md ops C k (fun listed' a' => (Region.ready md ops listed' = [k] ∧ Region.lexFrom md ops (ops.size - (k + 1)) (k + 1) (listed'.setIfInBounds k true) = true) ∧ Lq a') l.length listed a
  | [], i, listed, a, _, _, _, hB, h => by
    simp only [List.length_nil, midHead, Bool.and_eq_true, decide_eq_true_eq] at hB
    exact ⟨hB, h⟩
  | o :: l, i, listed, a, hl, hk, inv, hB, h => by
    have h0 : ops[i]? = some o := by simpa using (hl 0 (by simp)).symm
    simp only [List.length_cons, midHead, Bool.and_eq_true] at hB
    obtain ⟨⟨hr, hf⟩, hB'⟩ := hB
    simp only [List.length_cons] at hk
    have hik : i < k := by omega
    have hr' : i ∈ Region.ready md ops listed := by simpa using hr
    have hst : qOpIn F n P ops C i (wpQuietIn F n P ops C Lq l) a := by unfold qOpIn; simp only [h0]; exact h
    obtain ⟨v, hy, hK⟩ := yieldsQuiet_of_qOpIn h0 hst
    exact head_first h0 (Region.noSelect_spec hsel) hs hc hn hik (fun listed' a' hL j hj => by rw [hL.1.1] at hj; simp at hj; omega) l.length listed a inv (Region.free_spec h0 hf) hr' hy
      (head_lex hsel hs hc hn l (i + 1) _ _ (fun j hj => by have := hl (j + 1) (by simp; omega); simpa [Nat.add_assoc, Nat.add_comm 1 j] using this) (by omega) (inv.set hr' hik) hB' hK)

theorem wpIn_exit {o : Oper} {a : Act} {w : World} {K K' : Act → World → Prop} {Q : Exit → Act → World → Prop} (h : o.wpIn F n P a w K (Exit.then K' Q)) : o.wpIn F n P a w K Q := by
  unfold Oper.wpIn at *
  refine ⟨h.1, ?_⟩
  have h := h.2
  generalize (o.semAt F.round a.eval).run P w = r at *
  cases r with
  | ok x w' =>
    cases x <;> simp only [Oper.uponIn] at h ⊢ <;>
      first
        | exact h
        | exact ⟨h.1, CallsIn.mono h.2 (fun e w'' he => by cases e <;> exact he)⟩
        | exact ⟨h.1, RoundIn.mono h.2 (fun e w'' he => by cases e <;> exact he)⟩
  | halt x w' => cases x <;> simp only [Oper.uponIn] at h ⊢ <;> exact h

/-- the law -/
theorem wpIn_region_mid {id : Nat} {Q : Exit → Act → World → Prop} {a : Act} {w : World} {l : List Oper} (k : Nat) (hd : noDefer l = true) (hm : P.follows .mixedOrders = true) (hB : midB .any l.toArray k = true)
    (h : wpQuietIn F n P l.toArray (fun w' => ∃ j, w' = w.drewN j)
      (fun a' => ∀ j, wpListIn F n P l.toArray (Exit.then (fun a2 w2 => wpQuietIn F n P l.toArray (fun w' => ∃ j, w' = w2.drewN j) (fun a3 => ∀ w3, (∃ j, w3 = w2.drewN j) → Q .normal a3 w3) (l.drop (k + 1)) a2) Q) ((l.drop k).take 1) a' (w.drewN j)) (l.take k) a) :
    (Code.region id l.toArray true).wpIn F n P Q a w := by
  simp only [midB, Bool.and_eq_true, decide_eq_true_eq] at hB
  obtain ⟨⟨⟨⟨hsel, hn⟩, hs⟩, hc⟩, hlex⟩ := hB
  have hkl : k < l.length := by simpa using hn
  have htl : (l.take k).length = k := by simp; omega
  have inv0 : HeadInv .any l.toArray k (Array.replicate l.toArray.size false) :=
    ⟨by simp, fun j oj _ hl => (by rw [getD_replicate_false] at hl; cases hl), fun t _ ht => getD_in (by simpa using ht) (getD_replicate_false _ _)⟩
  have H := head_lex (md := .any) hsel hs hc hn (l.take k) 0 (Array.replicate l.toArray.size false) a (fun j hj => by
    rw [htl] at hj
    simp [hj]) (by omega) inv0 (by rw [htl]; exact hlex) h
  have hnd := noDefer_spec hd
  refine wpIn_region_any hm ?_
  have hsz : l.toArray.size = (l.take k).length + ((l.toArray.size - (k + 1)) + 1) := by simp; omega
  rw [hsz]
  have hsz2 : (l.take k).length + (l.toArray.size - (k + 1) + 1) = l.toArray.size := hsz.symm
  refine any_of_head (C := fun w' => ∃ j, w' = w.drewN j) (g := l.toArray.size - (k + 1) + 1) hnd (fun listed a' w' hw' hL => ?_) (l.take k).length _ a { w with drawn := w.drawn + 1 } ⟨1, rfl⟩ (by rw [hsz2]; exact H)
  obtain ⟨⟨hr, hlx⟩, hq⟩ := hL
  obtain ⟨j, rfl⟩ := hw'
  have ho : l.toArray[k]? = some l[k] := by simp [hkl]
  refine ⟨fun h0 => (by rw [hr] at h0; cases h0), fun i hi => ?_⟩
  rw [hr] at hi
  obtain rfl : i = k := by simpa using hi
  have hx := hq j
  have e1 : (l.drop i).take 1 = [l[i]] := by
    rw [List.drop_eq_getElem_cons hkl]
    rfl
  rw [e1] at hx
  refine wpOpIn_mono (K := fun a2 w2 => wpQuietIn F n P l.toArray (fun w' => ∃ j, w' = w2.drewN j) (fun a3 => ∀ w3, (∃ j, w3 = w2.drewN j) → Q .normal a3 w3) (l.drop (i + 1)) a2) (fun a2 w2 h2 => ?_) ?_
  · have hlen : (l.drop (i + 1)).length = l.toArray.size - (i + 1) := by simp
    have hq2 := wpAnyQIn_lex (F := F) (n := n) (P := P) (C := fun w' => ∃ j, w' = w2.drewN j) (md := .any) hsel (l.drop (i + 1)) (i + 1) (listed.setIfInBounds i true) a2 (fun j => by simp [List.getElem?_drop]) (by rw [hlen]; exact hlx) h2
    rw [hlen] at hq2
    exact wpAnyIn_of_quietR (C := fun w' => ∃ j, w' = w2.drewN j) hnd (fun a3 w3 hw3 h3 => h3 w3 hw3) _ _ _ _ ⟨0, rfl⟩ hq2
  · unfold wpOpIn
    simp only [ho]
    simp only [wpListIn] at hx
    by_cases hw : Region.wanted l[i] (yielded l.toArray a'.tmps) = true
    · rw [if_pos hw] at hx ⊢
      exact wpIn_exit hx
    · rw [if_neg hw] at hx ⊢
      exact hx

/-- a region that only reads: one walk serves every order; also inside a round -/
theorem wpIn_region_draws {id : Nat} {Q : Exit → Act → World → Prop} {a : Act} {w : World} {l : List Oper} (hd : noDefer l = true) (hm : P.follows .mixedOrders = true) (hB : Region.lexB .any l.toArray = true)
    (h : wpQuietIn F n P l.toArray (fun w' => ∃ j, w' = w.drewN j) (fun a' => ∀ w', (∃ j, w' = w.drewN j) → Q .normal a' w') l a) : (Code.region id l.toArray true).wpIn F n P Q a w := by
  simp only [Region.lexB, Bool.and_eq_true] at hB
  refine wpIn_region_any hm (wpAnyIn_of_quietR (C := fun w' => ∃ j, w' = w.drewN j) (Q := fun a' => ∀ w', (∃ j, w' = w.drewN j) → Q .normal a' w') (noDefer_spec hd) (fun _ w' hw' h => h w' hw') _ _ _ _ ⟨1, rfl⟩ ?_)
  have := wpAnyQIn_lex (F := F) (n := n) (C := fun w' => ∃ j, w' = w.drewN j) (md := .any) hB.1 l.toArray.toList 0 (Array.replicate l.toArray.size false) a (by simp) (by simpa using hB.2) (by simpa using h)
  simpa using this
end
end Go.Proofs.YteldkcpkamgfpaaDoor

