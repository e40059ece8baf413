/- Plain: declarations and inductive types (chapters 10, 14, 17): what may be one, which of its arguments' types are its own; the laws of chapter 17. No function of the program is named here. What names may be, and how many free variables a term has, is left open ('nm', 'fr'). -/
import Derived.Test.YteldkcpkamgfpaaDoorTr
namespace Go.Proofs.YteldkcpkamgfpaaDoor
set_option linter.unusedSimpArgs false
set_option linter.unusedVariables false

instance : DecidableEq Nd := fun a b => decidable_of_iff (a.K = b.K ∧ a.N = b.N ∧ a.M = b.M ∧ a.S.data = b.S.data) ⟨fun ⟨h1, h2, h3, h4⟩ => by
  cases a; cases b
  simp only at h1 h2 h3 h4
  rw [h1, h2, h3, ByteArray.ext h4], fun h => by rw [h]; exact ⟨rfl, rfl, rfl, rfl⟩⟩

structure Dc where
  Kind : Int
  Level : Int
  Name : ByteArray
  Ty : List Nd
  Bd : List Nd
  Cons : List (List (List Nd))

def ownD (s : ByteArray) : List Nd := [⟨25, 0, 0, s⟩]
def mentB (t : List Nd) (s : ByteArray) : Bool := t.any fun n => decide (n.S.data = s.data) && (n.K == 25 || (n.K == 26 || n.K == 27))
/-- the first part of a term; its second, if it is a function's type -/
def part1 (t : List Nd) : List Nd := match whole t with
  | some (.mk _ (a :: _)) => a.flat
  | _ => []
def part2 (t : List Nd) : Option (List Nd) := match whole t with
  | some (.mk nd (_ :: b :: _)) => if nd.K = 3 then some b.flat else none
  | _ => none
def kindN (s : ByteArray) (t : List Nd) : Int := if chk t = 0 then (if t = ownD s then 1 else if part2 t = some (ownD s) then 2 else 0) else 0
def posE (s : ByteArray) (t : List Nd) : Int := if chk t = 0 then (if kindN s t = 1 ∨ (kindN s t = 2 ∧ mentB (part1 t) s = false) ∨ mentB t s = false then 0 else 170) else chk t
def termsD (d : Dc) : List (List Nd) := if d.Kind = 1 then [d.Ty, d.Bd] else if d.Kind = 2 then [d.Ty] else if d.Kind = 3 then d.Cons.flatten else []
def unl (b : Bool) (e : Int) : Int := if b then 0 else e
def manyD (d : Dc) : Bool := decide (6 < d.Cons.length) || d.Cons.any fun c => decide (6 < c.length)
def lvD (d : Dc) : Bool := decide (1 ≤ d.Level) && decide (d.Level ≤ 9)

section
variable (nm : ByteArray → Bool) (fr : List Nd → Int)
def closE (t : List Nd) : Int := if chk t = 0 then (if 0 < fr t then 30 else 0) else chk t
def stepsD (d : Dc) : List Int := [unl (decide (1 ≤ d.Kind) && decide (d.Kind ≤ 3)) 1, unl (nm d.Name) 20, fstE ((termsD d).map (closE fr)), unl ((d.Kind == 3 && lvD d) || (!(d.Kind == 3) && d.Level == 0)) 1, unl (d.Kind == 3 || d.Cons.length == 0) 1, unl (!(d.Kind == 3) || d.Ty.length == 0) 1, unl (d.Kind == 1 || d.Bd.length == 0) 1, unl (!manyD d) 21]
def chkD (d : Dc) : Int := fstE (stepsD nm fr d)
def schE (d : Dc) : Int := if chkD nm fr d = 0 then (if d.Kind = 3 then fstE (d.Cons.flatten.map (posE d.Name)) else 1) else chkD nm fr d
def shapeL (d : Dc) (lv : List (List Int)) : Bool := decide (lv.map List.length = d.Cons.map List.length)
def lvl (n : Int) : Bool := decide (0 ≤ n) && decide (n ≤ 9)
def overD (d : Dc) (lv : List (List Int)) : Bool := (d.Cons.flatten.zip lv.flatten).any fun x => !(kindN d.Name x.1 == 1) && decide (d.Level < x.2)
def fitE (d : Dc) (lv : List (List Int)) : Int := if schE nm fr d = 0 then (if shapeL d lv && lv.flatten.all lvl then (if overD d lv then 2 else 0) else 1) else schE nm fr d
def freeC (s : ByteArray) (c : List (List Nd)) : Bool := c.all fun t => !(kindN s t == 1)
def basedB (d : Dc) : Bool := schE nm fr d == 0 && d.Cons.any (freeC d.Name)

theorem unl_ne {b : Bool} {e : Int} (he : e ≠ 170) : unl b e ≠ 170 := by
  unfold unl
  cases b <;> simp [he]
theorem unl_zero {b : Bool} {e : Int} (he : e ≠ 0) : unl b e = 0 ↔ b = true := by
  unfold unl
  cases b <;> simp [he]
/-- what a declaration is that may be an inductive type's -/
theorem sch_zero (d : Dc) : schE nm fr d = 0 ↔ (d.Kind = 3 ∧ nm d.Name = true ∧ (∀ c, c ∈ d.Cons → ∀ t, t ∈ c → closE fr t = 0 ∧ posE d.Name t = 0) ∧ lvD d = true ∧ d.Ty = [] ∧ d.Bd = [] ∧ manyD d = false) := by
  unfold schE
  by_cases hc : chkD nm fr d = 0
  · rw [if_pos hc]
    unfold chkD at hc
    rw [fstE_zero] at hc
    have h1 := hc (unl (decide (1 ≤ d.Kind) && decide (d.Kind ≤ 3)) 1) (by simp [stepsD])
    have h2 := hc (unl (nm d.Name) 20) (by simp [stepsD])
    have h3 := hc (fstE ((termsD d).map (closE fr))) (by simp [stepsD])
    have h4 := hc (unl ((d.Kind == 3 && lvD d) || (!(d.Kind == 3) && d.Level == 0)) 1) (by simp [stepsD])
    have h6 := hc (unl (!(d.Kind == 3) || d.Ty.length == 0) 1) (by simp [stepsD])
    have h7 := hc (unl (d.Kind == 1 || d.Bd.length == 0) 1) (by simp [stepsD])
    have h8 := hc (unl (!manyD d) 21) (by simp [stepsD])
    rw [unl_zero (by omega)] at h1 h2 h4 h6 h7 h8
    by_cases hk : d.Kind = 3
    · rw [if_pos hk, fstE_zero]
      have ht : termsD d = d.Cons.flatten := by unfold termsD; rw [if_neg (by omega), if_neg (by omega), if_pos hk]
      rw [ht, fstE_zero] at h3
      rw [hk] at h4 h6 h7
      constructor
      · intro h
        refine ⟨hk, h2, fun c hcm t htm => ?_, by simpa using h4, by simpa using h6, by simpa using h7, by simpa using h8⟩
        have hm : t ∈ d.Cons.flatten := List.mem_flatten.2 ⟨c, hcm, htm⟩
        exact ⟨h3 _ (List.mem_map.2 ⟨t, hm, rfl⟩), h _ (List.mem_map.2 ⟨t, hm, rfl⟩)⟩
      · rintro ⟨_, _, h, _⟩ e he
        obtain ⟨t, hm, rfl⟩ := List.mem_map.1 he
        obtain ⟨c, hcm, htm⟩ := List.mem_flatten.1 hm
        exact (h c hcm t htm).2
    · rw [if_neg hk]
      constructor
      · intro h; omega
      · rintro ⟨h, _⟩; exact absurd h hk
  · rw [if_neg hc]
    constructor
    · intro h; exact absurd h hc
    · rintro ⟨hk, h2, h3, h4, h5, h6, h7⟩
      exfalso
      apply hc
      unfold chkD
      rw [fstE_zero]
      have ht : termsD d = d.Cons.flatten := by unfold termsD; rw [if_neg (by omega), if_neg (by omega), if_pos hk]
      have hf : fstE ((termsD d).map (closE fr)) = 0 := by
        rw [ht, fstE_zero]
        intro e he
        obtain ⟨t, hm, rfl⟩ := List.mem_map.1 he
        obtain ⟨c, hcm, htm⟩ := List.mem_flatten.1 hm
        exact (h3 c hcm t htm).1
      intro e he
      simp only [stepsD, List.mem_cons, List.not_mem_nil, or_false] at he
      rcases he with rfl | rfl | rfl | rfl | rfl | rfl | rfl | rfl
      · rw [hk]; rfl
      · rw [h2]; rfl
      · exact hf
      · rw [hk, h4]; rfl
      · rw [hk]; rfl
      · rw [h5]; simp [unl]
      · rw [h6]; simp [unl]
      · rw [h7]; rfl

/-! ### P17.5 of parts: a constructor less, one twice -/
def lessD (d : Dc) : Dc := { d with Cons := d.Cons.take (d.Cons.length - 1) }
def moreD (d : Dc) : Dc := { d with Cons := d.Cons.headD [] :: d.Cons }
theorem sch_less {d : Dc} (h : schE nm fr d = 0) : schE nm fr (lessD d) = 0 := by
  rw [sch_zero] at h ⊢
  obtain ⟨h1, h2, h3, h4, h5, h6, h7⟩ := h
  refine ⟨h1, h2, fun c hc => h3 c (List.mem_of_mem_take hc), h4, h5, h6, ?_⟩
  unfold manyD lessD at *
  simp only [Bool.or_eq_false_iff, decide_eq_false_iff_not, List.any_eq_false, decide_eq_true_eq] at h7 ⊢
  exact ⟨by rw [List.length_take]; omega, fun c hc => h7.2 c (List.mem_of_mem_take hc)⟩
theorem based_less {d : Dc} (h : schE nm fr d = 0) (hb : basedB nm fr (lessD d) = true) : basedB nm fr d = true := by
  unfold basedB at hb ⊢
  simp only [Bool.and_eq_true, beq_iff_eq, List.any_eq_true] at hb ⊢
  obtain ⟨_, c, hc, h2⟩ := hb
  exact ⟨h, c, List.mem_of_mem_take hc, h2⟩
theorem sch_more {d : Dc} (h : schE nm fr d = 0) (h0 : d.Cons ≠ []) : schE nm fr (moreD d) = 0 ↔ d.Cons.length + 1 ≤ 6 := by
  rw [sch_zero] at h ⊢
  obtain ⟨h1, h2, h3, h4, h5, h6, h7⟩ := h
  have hh : d.Cons.headD [] ∈ d.Cons := by
    cases hc : d.Cons with
    | nil => exact absurd hc h0
    | cons a r => simp
  have hm : ∀ c, c ∈ (moreD d).Cons → c ∈ d.Cons := by
    intro c hc
    rcases List.mem_cons.1 hc with rfl | hc
    · exact hh
    · exact hc
  unfold manyD at h7
  simp only [Bool.or_eq_false_iff, decide_eq_false_iff_not, List.any_eq_false, decide_eq_true_eq] at h7
  constructor
  · rintro ⟨_, _, _, _, _, _, h8⟩
    unfold manyD at h8
    simp only [Bool.or_eq_false_iff, decide_eq_false_iff_not] at h8
    have : (moreD d).Cons.length = d.Cons.length + 1 := rfl
    omega
  · intro hl
    refine ⟨h1, h2, fun c hc => h3 c (hm c hc), h4, h5, h6, ?_⟩
    unfold manyD
    simp only [Bool.or_eq_false_iff, decide_eq_false_iff_not, List.any_eq_false, decide_eq_true_eq]
    exact ⟨by show ¬ 6 < d.Cons.length + 1; omega, fun c hc => h7.2 c (hm c hc)⟩
theorem based_empty {d : Dc} (h : d.Cons = []) : basedB nm fr d = false := by unfold basedB; rw [h]; simp

/-! ### P17.3 of levels -/
def zeros (lv : List (List Int)) : List (List Int) := lv.map fun l => List.replicate l.length 0
theorem zeros_shape (d : Dc) (lv : List (List Int)) : shapeL d (zeros lv) = shapeL d lv := by
  unfold shapeL zeros
  rw [List.map_map]
  congr 2
  apply List.map_congr_left
  intro l _
  simp
theorem zeros_mem {lv : List (List Int)} : ∀ x, x ∈ (zeros lv).flatten → x = 0 := by
  intro x hx
  obtain ⟨l, hl, hx⟩ := List.mem_flatten.1 hx
  obtain ⟨m, _, rfl⟩ := List.mem_map.1 hl
  exact (List.mem_replicate.1 hx).2
theorem fit_zeros {d : Dc} {lv : List (List Int)} (h : schE nm fr d = 0) (hs : shapeL d lv = true) : fitE nm fr d (zeros lv) = 0 := by
  have hl := ((sch_zero nm fr d).1 h).2.2.2.1
  unfold lvD at hl
  simp only [Bool.and_eq_true, decide_eq_true_eq] at hl
  unfold fitE
  have ha : (zeros lv).flatten.all lvl = true := by
    rw [List.all_eq_true]
    intro x hx
    rw [zeros_mem x hx]
    rfl
  rw [if_pos h, zeros_shape, hs, ha, Bool.and_self, if_pos rfl, if_neg]
  unfold overD
  rw [Bool.not_eq_true, List.any_eq_false]
  rintro ⟨t, n⟩ hx
  have hn : n = 0 := zeros_mem n (List.of_mem_zip hx).2
  simp only [Bool.and_eq_true, decide_eq_true_eq, not_and]
  intro _
  omega
theorem fit_cases {d : Dc} {lv : List (List Int)} (h : schE nm fr d = 0) : fitE nm fr d lv = 1 ∨ (shapeL d lv = true ∧ (fitE nm fr d lv = 2 ∨ fitE nm fr d lv = 0)) := by
  unfold fitE
  rw [if_pos h]
  by_cases h1 : (shapeL d lv && lv.flatten.all lvl) = true
  · rw [if_pos h1]
    refine .inr ⟨(Bool.and_eq_true _ _ ▸ h1).1, ?_⟩
    split
    · exact .inl rfl
    · exact .inr rfl
  · rw [if_neg h1]
    exact .inl rfl
def upD (d : Dc) (n : Int) : Dc := { d with Level := min 9 (d.Level + n) }
theorem sch_up {d : Dc} {n : Int} (hn : 0 ≤ n) (h : schE nm fr d = 0) : schE nm fr (upD d n) = 0 := by
  rw [sch_zero] at h ⊢
  obtain ⟨h1, h2, h3, h4, h5, h6, h7⟩ := h
  refine ⟨h1, h2, h3, ?_, h5, h6, h7⟩
  unfold lvD upD at *
  simp only [Bool.and_eq_true, decide_eq_true_eq] at h4 ⊢
  omega
theorem fit_up {d : Dc} {n : Int} {lv : List (List Int)} (hn : 0 ≤ n) (h : fitE nm fr d lv = 0) (hs : schE nm fr d = 0) : fitE nm fr (upD d n) lv = 0 := by
  have hl := ((sch_zero nm fr d).1 hs).2.2.2.1
  unfold lvD at hl
  simp only [Bool.and_eq_true, decide_eq_true_eq] at hl
  have hu := sch_up nm fr hn hs
  unfold fitE at h ⊢
  rw [if_pos hs] at h
  rw [if_pos hu]
  have hsh : shapeL (upD d n) lv = shapeL d lv := rfl
  rw [hsh]
  split at h
  · rename_i h1
    rw [if_pos h1]
    split at h
    · cases h
    · rename_i h2
      rw [if_neg]
      intro h3
      apply h2
      unfold overD at h3 ⊢
      rw [List.any_eq_true] at h3 ⊢
      obtain ⟨x, hx, h4⟩ := h3
      refine ⟨x, hx, ?_⟩
      simp only [Bool.and_eq_true, decide_eq_true_eq] at h4 ⊢
      refine ⟨h4.1, ?_⟩
      have : (upD d n).Level = min 9 (d.Level + n) := rfl
      have hx2 : lvl x.2 = true := by
        have h5 := (Bool.and_eq_true _ _ ▸ h1).2
        exact List.all_eq_true.1 h5 x.2 (List.of_mem_zip hx).2
      unfold lvl at hx2
      simp only [Bool.and_eq_true, decide_eq_true_eq] at hx2
      omega
  · cases h

/-! ### P17.1, P17.2 of names -/
theorem own_ment (s : ByteArray) : mentB (ownD s) s = true := by simp [mentB, ownD]
theorem ment_append (a b : List Nd) (s : ByteArray) : mentB (a ++ b) s = (mentB a s || mentB b s) := by unfold mentB; rw [List.any_append]
theorem kind_not {s : ByteArray} {t : List Nd} (h : mentB t s = false) : kindN s t ≠ 1 := by
  unfold kindN
  split
  · split
    · rename_i h2
      rw [h2, own_ment] at h
      cases h
    · split <;> omega
  · omega
theorem pos_not {s : ByteArray} {t : List Nd} (h : mentB t s = false) : posE s t = chk t := by
  unfold posE
  split
  · rename_i h2
    rw [if_pos (.inr (.inr h)), h2]
  · rfl
theorem pos_own {s : ByteArray} (h : chk (ownD s) = 0) : posE s (ownD s) = 0 := by
  unfold posE
  rw [if_pos h, if_pos]
  left
  unfold kindN
  rw [if_pos h, if_pos rfl]
end

/-! ### P17.1 of functions to the type -/
def ownT (s : ByteArray) : Tm := .mk ⟨25, 0, 0, s⟩ []
def piNd (n : Int) : Nd := ⟨3, n, 0, ByteArray.empty⟩
def piT (n : Int) (A B : Tm) : Tm := .mk (piNd n) [A, B]
theorem own_flat (s : ByteArray) : (ownT s).flat = ownD s := by unfold ownT; rw [flat_mk, flatL_nil]; rfl
theorem own_dep (s : ByteArray) : (ownT s).dep = 1 := by unfold ownT; rw [dep_mk, depL_nil]
theorem own_wf {s : ByteArray} (h : nameB s = true) : (ownT s).wf = true := by
  unfold ownT
  rw [wf_iff]
  refine ⟨?_, rfl, fun t ht => by cases ht⟩
  unfold rightB
  simp [shp, h]
theorem pi_flat (n : Int) (A B : Tm) : (piT n A B).flat = A.flat ++ (B.flat ++ [piNd n]) := by
  unfold piT
  rw [flat_mk, flatL_cons, flatL_one, List.append_assoc]
theorem pi_dep (n : Int) (A B : Tm) : (piT n A B).dep = max A.dep B.dep + 1 := by
  unfold piT
  rw [dep_mk, depL_cons, depL_cons, depL_nil]
  omega
theorem pi_wf {n : Int} (h0 : 0 ≤ n) (h3 : n ≤ 3) {A B : Tm} (ha : A.wf = true) (hb : B.wf = true) : (piT n A B).wf = true := by
  unfold piT
  rw [wf_iff]
  refine ⟨?_, rfl, fun t ht => ?_⟩
  · unfold rightB piNd
    have hm : mostN 3 = 3 := rfl
    simp [shp, hm, h0, h3]
  · simp at ht
    rcases ht with rfl | rfl
    · exact ha
    · exact hb
theorem pi_chk {n : Int} (h0 : 0 ≤ n) (h3 : n ≤ 3) {A B : Tm} (ha : A.wf = true) (hb : B.wf = true) (hl : A.flat.length + B.flat.length ≤ 3999) (hd : A.dep ≤ 59 ∧ B.dep ≤ 59) :
    chk (A.flat ++ (B.flat ++ [piNd n])) = 0 ∧ whole (A.flat ++ (B.flat ++ [piNd n])) = some (piT n A B) := by
  have hw := pi_wf h0 h3 ha hb
  rw [← pi_flat n A B]
  refine ⟨?_, whole_flat hw⟩
  rw [chk_flat hw, if_neg, if_neg]
  · rw [pi_dep]; omega
  · rw [pi_flat]; simp; omega
theorem pi_part1 {n : Int} {A B : Tm} {l : List Nd} (h : whole l = some (piT n A B)) : part1 l = A.flat := by unfold part1; rw [h]; rfl
theorem pi_part2 {n : Int} {A B : Tm} {l : List Nd} (h : whole l = some (piT n A B)) : part2 l = some B.flat := by unfold part2; rw [h]; rfl
theorem chk_own {s : ByteArray} (h : nameB s = true) : chk (ownD s) = 0 := by
  rw [← own_flat, chk_flat (own_wf h), own_dep, own_flat, if_neg (by simp [ownD]), if_neg (by omega)]
theorem pi_ne {n : Int} {A B : Tm} (s : ByteArray) : A.flat ++ (B.flat ++ [piNd n]) ≠ ownD s := by
  intro h
  have h2 := congrArg List.length h
  have := flat_pos A
  have := flat_pos B
  simp [ownD] at h2
  omega
/-- what does not mention the type may be the domain of a function to it; to what is not the type alone no function goes from it -/
theorem pos_to {s : ByteArray} (hs : nameB s = true) {n : Int} (h0 : 0 ≤ n) (h3 : n ≤ 3) {T : Tm} (hT : T.wf = true) (hl : T.flat.length ≤ 3998) (hd : T.dep ≤ 59) :
    posE s (T.flat ++ (ownD s ++ [piNd n])) = if mentB T.flat s then 170 else 0 := by
  have hp := pi_chk h0 h3 hT (own_wf hs) (by rw [own_flat]; simp [ownD]; omega) ⟨hd, by rw [own_dep]; omega⟩
  rw [own_flat] at hp
  have hne : T.flat ++ (ownD s ++ [piNd n]) ≠ ownD s := by have := pi_ne (n := n) (A := T) (B := ownT s) s; rw [own_flat] at this; exact this
  have hk : kindN s (T.flat ++ (ownD s ++ [piNd n])) = 2 := by
    unfold kindN
    rw [if_pos hp.1, if_neg hne, if_pos]
    rw [pi_part2 hp.2, own_flat]
  have hm : mentB (T.flat ++ (ownD s ++ [piNd n])) s = true := by rw [ment_append, ment_append, own_ment]; simp
  unfold posE
  rw [if_pos hp.1, hk, hm, pi_part1 hp.2]
  cases mentB T.flat s <;> simp
theorem pos_from {s : ByteArray} (hs : nameB s = true) {n : Int} (h0 : 0 ≤ n) (h3 : n ≤ 3) {T : Tm} (hT : T.wf = true) (hl : T.flat.length ≤ 3998) (hd : T.dep ≤ 59) :
    posE s (ownD s ++ (T.flat ++ [piNd n])) = 170 := by
  have hp := pi_chk h0 h3 (own_wf hs) hT (by rw [own_flat]; simp [ownD]; omega) ⟨by rw [own_dep]; omega, hd⟩
  rw [own_flat] at hp
  have hne : ownD s ++ (T.flat ++ [piNd n]) ≠ ownD s := by have := pi_ne (n := n) (A := ownT s) (B := T) s; rw [own_flat] at this; exact this
  have hk : kindN s (ownD s ++ (T.flat ++ [piNd n])) ≠ 1 := by
    unfold kindN
    rw [if_pos hp.1, if_neg hne]
    split <;> omega
  have hm : mentB (ownD s ++ (T.flat ++ [piNd n])) s = true := by rw [ment_append, own_ment]; simp
  unfold posE
  rw [if_pos hp.1, pi_part1 hp.2, own_flat, own_ment, hm]
  simp [hk]

theorem fstE_mem : ∀ l : List Int, fstE l = 0 ∨ fstE l ∈ l := by
  intro l
  induction l with
  | nil => exact .inl rfl
  | cons e l ih =>
    simp only [fstE]
    by_cases h : e = 0
    · rw [if_pos h]
      rcases ih with h2 | h2
      · exact .inl h2
      · exact .inr (List.mem_cons_of_mem _ h2)
    · rw [if_neg h]
      exact .inr (List.mem_cons_self)
theorem chk_vals (l : List Nd) : chk l = 0 ∨ chk l = 20 ∨ chk l = 21 ∨ chk l = 22 := by
  unfold chk
  split
  · simp
  · split
    · simp
    · split <;> simp

section
variable (nm : ByteArray → Bool) (fr : List Nd → Int)
theorem names_law {ts : List (List Nd)} {a b : ByteArray} {lv : Int} (ha : nm a = true) (hb : nm b = true) (hm : ∀ t, t ∈ ts → mentB t a = false ∧ mentB t b = false) :
    schE nm fr ⟨3, lv, a, [], [], [ts]⟩ = schE nm fr ⟨3, lv, b, [], [], [ts]⟩ ∧ schE nm fr ⟨3, lv, a, [], [], [ts]⟩ ≠ 170 ∧
    (basedB nm fr ⟨3, lv, a, [], [], [ts]⟩ = true ↔ schE nm fr ⟨3, lv, a, [], [], [ts]⟩ = 0) := by
  have hsteps : stepsD nm fr ⟨3, lv, a, [], [], [ts]⟩ = stepsD nm fr ⟨3, lv, b, [], [], [ts]⟩ := by
    unfold stepsD termsD manyD lvD
    simp only [ha, hb]
  have hchk : chkD nm fr ⟨3, lv, a, [], [], [ts]⟩ = chkD nm fr ⟨3, lv, b, [], [], [ts]⟩ := by unfold chkD; rw [hsteps]
  have hpa : ([ts] : List (List (List Nd))).flatten.map (posE a) = ts.map chk := by
    simp only [List.flatten_cons, List.flatten_nil, List.append_nil]
    exact List.map_congr_left fun t ht => pos_not (hm t ht).1
  have hpb : ([ts] : List (List (List Nd))).flatten.map (posE b) = ts.map chk := by
    simp only [List.flatten_cons, List.flatten_nil, List.append_nil]
    exact List.map_congr_left fun t ht => pos_not (hm t ht).2
  have e1 : schE nm fr ⟨3, lv, a, [], [], [ts]⟩ = schE nm fr ⟨3, lv, b, [], [], [ts]⟩ := by
    unfold schE
    simp only
    rw [hchk, hpa, hpb]
  refine ⟨e1, ?_, ?_⟩
  · unfold schE
    simp only
    by_cases hc : chkD nm fr ⟨3, lv, a, [], [], [ts]⟩ = 0
    · rw [if_pos hc, if_pos trivial, hpa]
      rcases fstE_mem (ts.map chk) with h | h
      · rw [h]; omega
      · obtain ⟨t, _, ht⟩ := List.mem_map.1 h
        rw [← ht]
        have := chk_vals t
        omega
    · rw [if_neg hc]
      unfold chkD
      have hf : ∀ l : List (List Nd), fstE (l.map (closE fr)) ≠ 170 := by
        intro l
        rcases fstE_mem (l.map (closE fr)) with h | h
        · rw [h]; omega
        · obtain ⟨t, _, ht⟩ := List.mem_map.1 h
          rw [← ht]
          unfold closE
          have := chk_vals t
          split
          · split <;> omega
          · omega
      obtain ⟨q, hq⟩ : ∃ q, fstE (stepsD nm fr ⟨3, lv, a, [], [], [ts]⟩) = q := ⟨_, rfl⟩
      rcases fstE_mem (stepsD nm fr ⟨3, lv, a, [], [], [ts]⟩) with h | h
      · rw [h]; omega
      · rw [hq] at h ⊢
        simp only [stepsD, List.mem_cons, List.not_mem_nil, or_false] at h
        rcases h with h | h | h | h | h | h | h | h <;> rw [h]
        · exact unl_ne (by omega)
        · exact unl_ne (by omega)
        · exact hf _
        all_goals exact unl_ne (by omega)
  · unfold basedB
    rw [Bool.and_eq_true, beq_iff_eq]
    constructor
    · intro h; exact h.1
    · intro h
      refine ⟨h, ?_⟩
      rw [List.any_eq_true]
      refine ⟨ts, by simp, ?_⟩
      unfold freeC
      rw [List.all_eq_true]
      intro t ht
      have := kind_not (hm t ht).1
      simp [this]
end

end Go.Proofs.YteldkcpkamgfpaaDoor
