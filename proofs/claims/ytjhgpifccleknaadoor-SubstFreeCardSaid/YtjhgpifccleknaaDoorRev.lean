/- slices.Reverse turns a row of nodes of the call's own round; nothing else is changed. -/
import Derived.Test.YtjhgpifccleknaaDoorBkw
import Derived.BigRegion
import Derived.Test.YtjhgpifccleknaaDoorShift
namespace Go.Proofs.YtjhgpifccleknaaDoor
set_option linter.unusedSimpArgs false
set_option linter.unusedVariables false
open Go.RowKit Go.BigFrame

/-- the row, its first and last i elements exchanged -/
def rv (l : List Nd) (i : Nat) : List Nd := (List.range l.length).map fun t => if t < i ∨ l.length ≤ t + i then l.getD (l.length - 1 - t) ⟨0, 0, 0, ByteArray.empty⟩ else l.getD t ⟨0, 0, 0, ByteArray.empty⟩
theorem rv_length (l : List Nd) (i : Nat) : (rv l i).length = l.length := by simp [rv]
theorem rv_get (l : List Nd) (i t : Nat) (ht : t < l.length) : (rv l i)[t]? = some (if t < i ∨ l.length ≤ t + i then l.getD (l.length - 1 - t) ⟨0, 0, 0, ByteArray.empty⟩ else l.getD t ⟨0, 0, 0, ByteArray.empty⟩) := by
  unfold rv
  rw [List.getElem?_map, List.getElem?_range ht]
  rfl
theorem rv_zero (l : List Nd) : rv l 0 = l := by
  refine List.ext_getElem? fun t => ?_
  by_cases ht : t < l.length
  · rw [rv_get l 0 t ht, if_neg (by omega), List.getD_eq_getElem?_getD, List.getElem?_eq_getElem ht]
    rfl
  · rw [List.getElem?_eq_none (by rw [rv_length]; omega), List.getElem?_eq_none (by omega)]
theorem rv_end (l : List Nd) (i : Nat) (h : l.length ≤ 2 * i + 1) : rv l i = l.reverse := by
  refine List.ext_getElem? fun t => ?_
  by_cases ht : t < l.length
  · rw [rv_get l i t ht, List.getElem?_reverse ht, List.getElem?_eq_getElem (by omega)]
    by_cases hc : t < i ∨ l.length ≤ t + i
    · rw [if_pos hc, List.getD_eq_getElem?_getD, List.getElem?_eq_getElem (by omega)]
      rfl
    · rw [if_neg hc, List.getD_eq_getElem?_getD, List.getElem?_eq_getElem ht]
      have e : l.length - 1 - t = t := by omega
      simp [e]
  · rw [List.getElem?_eq_none (by rw [rv_length]; omega), List.getElem?_eq_none (by simp; omega)]
theorem rv_step (l : List Nd) (i k : Nat) (h : i < k) (hk : l.length = k + 1 + i) : rv l (i + 1) = ((rv l i).set i (l.getD k ⟨0, 0, 0, ByteArray.empty⟩)).set k (l.getD i ⟨0, 0, 0, ByteArray.empty⟩) := by
  refine List.ext_getElem? fun t => ?_
  by_cases ht : t < l.length
  · rw [rv_get l (i + 1) t ht]
    by_cases h1 : t = k
    · subst h1
      rw [List.getElem?_set_self (by rw [List.length_set, rv_length]; omega), if_pos (by omega)]
      have e : l.length - 1 - t = i := by omega
      rw [e]
    · rw [List.getElem?_set_ne (by omega)]
      by_cases h2 : t = i
      · subst h2
        rw [List.getElem?_set_self (by rw [rv_length]; omega), if_pos (by omega)]
        have e : l.length - 1 - t = k := by omega
        rw [e]
      · rw [List.getElem?_set_ne (by omega), rv_get l i t ht]
        by_cases hc : t < i ∨ l.length ≤ t + i
        · rw [if_pos hc, if_pos (by omega)]
        · rw [if_neg hc, if_neg (by omega)]
  · rw [List.getElem?_eq_none (by rw [rv_length]; omega), List.getElem?_eq_none (by rw [List.length_set, List.length_set, rv_length]; omega)]

theorem node_set4 : ∀ (l : List Nd) (i : Nat) (nd : Nd), i < l.length →
    ((((l.flatMap nodeV).set (i * 4) (.int .i64 nd.K)).set (i * 4 + 1) (.int .i64 nd.N)).set (i * 4 + 2) (.int .i64 nd.M)).set (i * 4 + 3) (.string nd.S) = (l.set i nd).flatMap nodeV := by
  intro l
  induction l with
  | nil => intro i nd h; simp at h
  | cons x r ih =>
    intro i nd h
    cases i with
    | zero => simp [nodeV]
    | succ i =>
      have := ih i nd (by simpa using h)
      have e0 : (i + 1) * 4 = i * 4 + 4 := by omega
      rw [e0, List.set_cons_succ, List.flatMap_cons, List.flatMap_cons, ← this]
      simp [nodeV]

theorem ownsRow_drew {w : World} {base size n : Nat} {e : TypeId} {v : Value} {xs : List Value} (h : w.ownsRow base e size v n xs) : w.drew.ownsRow base e size v n xs := h

def RevPost (base : Nat) (v : Value) (l : List Nd) (w : World) (e : Ending) (w' : World) : Prop := e = .returned (.tuple #[]) ∧ OwnN base w' v l.reverse ∧ Chg (fun y => v.ownBlock = some y) w w'

set_option maxRecDepth 20000 in
set_option maxHeartbeats 4000000 in
theorem reverse_any (base : Nat) (l : List Nd) (v : Value) (w : World) (h : OwnN base w v l) (hlen : l.length ≤ 20000) :
    Calls Tryd.prog 91 #[v] w (RevPost base v l w) := by
  by_cases h0 : l.length ≤ 1
  · obtain ⟨a, cap, rfl, _⟩ := (RowAt.of_own h).form
    have hr : l.reverse = l := by
      rw [← rv_end l 0 (by omega), rv_zero]
    have HR := Lib.hid hr
    have HO := Lib.hid h
    obtain ⟨n, hn⟩ : ∃ n, l.length = n := ⟨_, rfl⟩
    have hd : decide ((0 : Int) < (n : Int) - 1) = false := by simp; omega
    rw [hn]
    have HN := Lib.hid hn
    have hn1 : n ≤ 1 := by omega
    clear h hr hn h0 hlen
    go_enter Tryd.func91, Tryd.ntmps91
    go_wp2_with fail
    go_loopw [2, 3] (fun i j wr => i = .int .i64 0 ∧ j = .int .i64 ((n : Int) - 1) ∧ wr = w) (fun _ _ _ => 0)
    case atStart => exact ⟨rfl, rfl, rfl⟩
    case round =>
      obtain ⟨rfl, rfl, rfl⟩ := hrel
      go_wp2_with fail
      go_end0
      exact ⟨rfl, by rw [HR.out, ← HN.out]; exact HO.out, Chg.refl _ _⟩
  · obtain ⟨g, cap, rfl, hg1, hg2, hg3, hg4, _⟩ := ownsRow_open h (by omega)
    obtain ⟨n, hn⟩ : ∃ n, l.length = n := ⟨_, rfl⟩
    have HH := Lib.hid h
    have HN := Lib.hid hn
    rw [hn] at hg3 hlen h0 ⊢
    have hm9 : cap ≤ 9223372036854775807 := by unfold maxLen at hg4; omega
    clear h hn hg4
    go_enter Tryd.func91, Tryd.ntmps91
    go_wp2_with fail
    go_loopw [2, 3] (fun i j wr => ∃ k : Nat, 2 * k ≤ n ∧ i = .int .i64 (k : Int) ∧ j = .int .i64 ((n : Int) - 1 - k) ∧ OwnN base wr (.slice (some ⟨g, 0, none⟩) n cap) (rv l k) ∧ Chg (fun y => y = g) w wr) (fun i _ _ => n - (intOf i).toNat)
    case atStart => exact ⟨0, by omega, rfl, by simp, by rw [rv_zero, ← HN.out]; exact HH.out, Chg.refl _ _⟩
    case round =>
      rename World => wr
      obtain ⟨i, hi, rfl, rfl, ho, hc⟩ := hrel
      have HO := Lib.hid ho
      have HC := Lib.hid hc
      by_cases hlt : 2 * i + 1 < n
      · obtain ⟨k, hk⟩ : ∃ k, n = k + 1 + i := ⟨n - 1 - i, by omega⟩
        have e1 : (n : Int) - 1 - i = (k : Int) := by omega
        have hik : i < k := by omega
        rw [e1]
        obtain ⟨ni, hni⟩ : ∃ x, l.getD i ⟨0, 0, 0, ByteArray.empty⟩ = x := ⟨_, rfl⟩
        obtain ⟨nk, hnk⟩ : ∃ x, l.getD k ⟨0, 0, 0, ByteArray.empty⟩ = x := ⟨_, rfl⟩
        have hst := rv_step l i k hik (by rw [HN.out]; exact hk)
        rw [hni, hnk] at hst
        have hgi : (rv l i)[i]? = some ni := by rw [rv_get l i i (by rw [HN.out]; omega), if_neg (by rw [HN.out]; omega), hni]
        have hgk : (rv l i)[k]? = some nk := by rw [rv_get l i k (by rw [HN.out]; omega), if_neg (by rw [HN.out]; omega), hnk]
        have hrd : ReadN wr (.slice (some ⟨g, 0, none⟩) (rv l i).length cap) (rv l i) := by
          have := ho.read
          rw [rv_length, HN.out]
          exact this
        have hcl : ∀ t x, (rv l i)[t]? = some x → wr.cell? ⟨g, t * 4, none⟩ = some (.int .i64 x.K) ∧ wr.cell? ⟨g, t * 4 + 1, none⟩ = some (.int .i64 x.N) ∧ wr.cell? ⟨g, t * 4 + 2, none⟩ = some (.int .i64 x.M) ∧ wr.cell? ⟨g, t * 4 + 3, none⟩ = some (.string x.S) := by
          intro t x hx
          obtain ⟨htl, htx⟩ := List.getElem?_eq_some_iff.1 hx
          obtain ⟨_, ⟨h0', _⟩ | ⟨b', off', cap', he, _, _, _, hcc⟩⟩ := ReadN.cases hrd
          · rw [h0'] at htl; simp at htl
          · obtain ⟨⟨rfl, rfl⟩, rfl⟩ : (g = b' ∧ 0 = off') ∧ cap = cap' := by simpa using he
            have := hcc t htl
            rw [htx] at this
            simpa using this
        obtain ⟨r0, r1, r2, r3⟩ := hcl i ni hgi
        obtain ⟨s0, s1, s2, s3⟩ := hcl k nk hgk
        have f0 : ∀ o, wr.frozen? ⟨g, o, none⟩ = false := by
          intro o
          obtain ⟨g', c', he, _, _, _, _, _, _, hf⟩ := ownsRow_open ho (by rw [rv_length, HN.out]; omega)
          have hgg : g = g' := by simp at he; exact he.1
          rw [hgg]
          exact hf o
        have HST := Lib.hid hst
        have HKK := Lib.hid hk
        clear hst hgi hgk hcl hrd ho hc hni hnk e1
        go_wp2_with fail
        go_big_region
        obtain ⟨w2, hw2⟩ : ∃ w2, ((((((((wr.setCell ⟨g, i * 4, none⟩ (.int .i64 nk.K)).setCell ⟨g, i * 4 + 1, none⟩ (.int .i64 nk.N)).setCell ⟨g, i * 4 + 2, none⟩ (.int .i64 nk.M)).setCell ⟨g, i * 4 + 3, none⟩ (.string nk.S)).setCell ⟨g, k * 4, none⟩ (.int .i64 ni.K)).setCell ⟨g, k * 4 + 1, none⟩ (.int .i64 ni.N)).setCell ⟨g, k * 4 + 2, none⟩ (.int .i64 ni.M)).setCell ⟨g, k * 4 + 3, none⟩ (.string ni.S)).drew = w2 := ⟨_, rfl⟩
        rw [hw2]
        have hcs : ∀ (A : World) (o : Nat) (u : Value), Chg (fun y => y = g) A (A.setCell ⟨g, o, none⟩ u) := fun A o u => Chg.setCell (S := fun y => y = g) A ⟨g, o, none⟩ u rfl
        have hc2 : Chg (fun y => y = g) wr w2 := by
          rw [← hw2]
          exact ((((((((hcs _ _ _).trans (hcs _ _ _)).trans (hcs _ _ _)).trans (hcs _ _ _)).trans (hcs _ _ _)).trans (hcs _ _ _)).trans (hcs _ _ _)).trans (hcs _ _ _)).trans (Chg.drew _)
        have ho2 : OwnN base w2 (.slice (some ⟨g, 0, none⟩) n cap) (rv l (i + 1)) := by
          rw [← hw2]
          have hb := HO.out
          unfold OwnN at hb ⊢
          rw [rv_length, HN.out] at hb ⊢
          have h8 := ownsRow_set (ownsRow_set (ownsRow_set (ownsRow_set (ownsRow_set (ownsRow_set (ownsRow_set (ownsRow_set hb (i * 4) (.int .i64 nk.K)) (i * 4 + 1) (.int .i64 nk.N)) (i * 4 + 2) (.int .i64 nk.M)) (i * 4 + 3) (.string nk.S)) (k * 4) (.int .i64 ni.K)) (k * 4 + 1) (.int .i64 ni.N)) (k * 4 + 2) (.int .i64 ni.M)) (k * 4 + 3) (.string ni.S)
          rw [node_set4 _ i nk (by rw [rv_length, HN.out]; omega), node_set4 _ k ni (by rw [List.length_set, rv_length, HN.out]; omega), ← HST.out] at h8
          exact ownsRow_drew h8
        have HO2 := Lib.hid ho2
        have HC2 : Hid (Chg (fun y => y = g) w w2) := HC.out.trans hc2
        clear hw2 hcs hc2 ho2 r0 r1 r2 r3 s0 s1 s2 s3 f0
        go_wp2_with fail
        go_roundw
        case rel => exact ⟨i + 1, by omega, by go_num, congrArg (Value.int .i64) (by have := HKK.out; omega), HO2.out, HC2.out⟩
        case measure => simp [intOf]; omega
      · have hd : decide ((i : Int) < (n : Int) - 1 - i) = false := by simp; omega
        have he := rv_end l i (by rw [HN.out]; omega)
        have HE := Lib.hid he
        clear he hc ho
        go_wp2_with fail
        go_end0
        refine ⟨rfl, ?_, ?_⟩
        · rw [← HE.out]; exact HO.out
        · exact HC.out.mono fun y _ h => by simp [Value.ownBlock, h]

end Go.Proofs.YtjhgpifccleknaaDoor
