/- A slice of slices of slices of nodes as it reads; slices.Grow (of nothing) and slices.Concat of slices of slices of nodes; decls.terms; condition: at most a million. -/
import Derived.Test.YteldkcpkamgfpaaDoorDa
namespace Go.Proofs.YteldkcpkamgfpaaDoor
set_option linter.unusedSimpArgs false
set_option linter.unusedVariables false
open Go.RowKit

def ReadNNN (w : World) (v : Value) (T : List (List (List Nd))) : Prop :=
  ∃ vs : List Value, vs.length = T.length ∧ RowAt w 1 v T.length vs ∧ ∀ i (h : i < T.length) u, vs[i]? = some u → ReadNN w u (T[i])

theorem ReadNNN.below {w w' : World} {v : Value} {T : List (List (List Nd))} (h : ReadNNN w v T) (hb : Below w.heap.size w w') : ReadNNN w' v T := by
  obtain ⟨vs, hl, hr, he⟩ := h
  exact ⟨vs, hl, hr.below hb, fun i hi u hu => (he i hi u hu).below hb⟩
theorem ReadNN.form {w : World} {v : Value} {L : List (List Nd)} (h : ReadNN w v L) : ∃ a c, v = .slice a L.length c := by
  obtain ⟨vs, hl, hr, he⟩ := h
  obtain ⟨a, c, hv, _⟩ := hr.form
  exact ⟨a, c, hv⟩
theorem ReadNNN.form {w : World} {v : Value} {L : List (List (List Nd))} (h : ReadNNN w v L) : ∃ a c, v = .slice a L.length c := by
  obtain ⟨vs, hl, hr, he⟩ := h
  obtain ⟨a, c, hv, _⟩ := hr.form
  exact ⟨a, c, hv⟩
theorem ReadNNN.at {w : World} {b off cap : Nat} {T : List (List (List Nd))} (h : ReadNNN w (.slice (some ⟨b, off, none⟩) T.length cap) T) {i : Nat} (hi : i < T.length) :
    ∃ a c, w.cell? ⟨b, off + i, none⟩ = some (.slice a (T[i]).length c) ∧ ReadNN w (.slice a (T[i]).length c) (T[i]) := by
  obtain ⟨vs, hl, hr, he⟩ := h
  obtain ⟨b', off', cap', h1, _, _, _, hc⟩ := RowAt.pos hr (by omega)
  obtain ⟨⟨rfl, rfl⟩, rfl⟩ : (b = b' ∧ off = off') ∧ cap = cap' := by simpa using h1
  have hv : vs[i]? = some vs[i] := List.getElem?_eq_getElem (by omega)
  have hn := he i hi _ hv
  have hcell := hc _ _ hv
  obtain ⟨a, c, hu⟩ := ReadNN.form hn
  rw [hu] at hn hcell
  exact ⟨a, c, hcell, hn⟩
theorem ReadNNN.shape {w : World} {v : Value} {L : List (List (List Nd))} (h : ReadNNN w v L) : L.length ≤ maxLen ∧ ((L = [] ∧ ∃ a cap, v = .slice a 0 cap) ∨ ∃ b off cap, v = .slice (some ⟨b, off, none⟩) L.length cap ∧ b < w.heap.size) := by
  obtain ⟨vs, hl, hr, he⟩ := h
  refine ⟨hr.small, ?_⟩
  by_cases h0 : L = []
  · subst h0
    obtain ⟨a, cap, rfl, _⟩ := hr.form
    exact .inl ⟨rfl, a, cap, rfl⟩
  · obtain ⟨b, off, cap, rfl, _, _, hb, _⟩ := RowAt.pos hr (List.length_pos_iff.2 h0)
    exact .inr ⟨b, off, cap, rfl, hb⟩

/-- values that read as slices of nodes, one by one -/
def AllN (w : World) (vs : List Value) (L : List (List Nd)) : Prop := vs.length = L.length ∧ ∀ (i : Nat) u l, vs[i]? = some u → L[i]? = some l → ReadN w u l
theorem AllN.below {w w' : World} {vs : List Value} {L : List (List Nd)} (h : AllN w vs L) (hb : Below w.heap.size w w') : AllN w' vs L := ⟨h.1, fun i u l h1 h2 => (h.2 i u l h1 h2).below hb⟩
theorem AllN.append {w : World} {vs us : List Value} {L M : List (List Nd)} (h : AllN w vs L) (g : AllN w us M) : AllN w (vs ++ us) (L ++ M) := by
  refine ⟨by simp [h.1, g.1], fun i u l h1 h2 => ?_⟩
  by_cases hi : i < vs.length
  · rw [List.getElem?_append_left hi] at h1
    rw [List.getElem?_append_left (by rw [← h.1]; exact hi)] at h2
    exact h.2 i u l h1 h2
  · rw [List.getElem?_append_right (by omega)] at h1
    rw [List.getElem?_append_right (by rw [← h.1]; omega), ← h.1] at h2
    exact g.2 _ u l h1 h2
theorem AllN.one {w : World} {vs : List Value} {L : List (List Nd)} (h : AllN w vs L) : ∀ u, u ∈ vs → u.oneCell' = true := by
  intro u hu
  obtain ⟨i, hi, rfl⟩ := List.mem_iff_getElem.1 hu
  obtain ⟨a, c, he⟩ := ReadN.len_slice (h.2 i vs[i] (L[i]'(by rw [← h.1]; exact hi)) (List.getElem?_eq_getElem hi) (List.getElem?_eq_getElem _))
  rw [he]
  rfl
theorem ReadNN.all {w : World} {v : Value} {L : List (List Nd)} (h : ReadNN w v L) : ∃ vs, RowAt w 1 v L.length vs ∧ AllN w vs L := by
  obtain ⟨vs, hl, hr, he⟩ := h
  refine ⟨vs, hr, hl, fun i u l h1 h2 => ?_⟩
  obtain ⟨hi, rfl⟩ := List.getElem?_eq_some_iff.1 h2
  exact he i hi u h1
theorem ReadNN.mk {w : World} {v : Value} {L : List (List Nd)} {vs : List Value} (hr : RowAt w 1 v L.length vs) (h : AllN w vs L) : ReadNN w v L :=
  ⟨vs, h.1, hr, fun i hi u hu => h.2 i u _ hu (List.getElem?_eq_getElem hi)⟩

def Grow2Post (w : World) (e : Ending) (w' : World) : Prop := ∃ v, e = .returned v ∧ w'.ownsRow w.heap.size 22 1 v 0 [] ∧ Below w.heap.size w w'

set_option maxRecDepth 20000 in
set_option maxHeartbeats 1000000 in
theorem grow2_any (n : Nat) (w : World) (hn : n ≤ 1000000) :
    Calls Tryd.prog 94 #[.slice none 0 0, .int .i64 (n : Int)] w (Grow2Post w) := by
  obtain ⟨i0, hi, hz0, hz1, hz2⟩ := info_parts Tryd.infoNodes
  by_cases h0 : n = 0
  · subst h0
    go_enter Tryd.func94, Tryd.ntmps94
    go_wp2_with fail
    go_ret
    exact ⟨_, rfl, World.ownsRow_nil _ _ _ _, Below.refl _ _⟩
  · have hp : 0 < n := by omega
    obtain ⟨zc, hzc⟩ : ∃ zc, (Builtin.zeroCells (Value.slice none 0 0).cells n) = zc := ⟨_, rfl⟩
    obtain ⟨v', w', hrun, hown, hg, _⟩ := run_append_zero_row (P := Tryd.prog) w w.heap.size 42 3 42 22 i0 (.slice none 0 0) 1 24 Tryd.underlying42 Tryd.underlying3 hi hz0 hz1 hz2 rfl (by decide) (.slice none 0 0) 0 [] (World.ownsRow_nil _ _ _ _) n hp (by
      intro u hu
      rw [Array.mem_toList_iff] at hu
      unfold Builtin.zeroCells at hu
      obtain ⟨i, _, rfl⟩ := Array.mem_map.1 hu
      show ((#[Value.slice none 0 0] : Array Value)[i % 1]!).oneCell' = true
      rw [Nat.mod_one]
      rfl) (by unfold maxLen; omega) (by omega) (Nat.le_refl _)
    obtain ⟨a, cap, rfl, hcap, hcut⟩ := ownsRow_cut hown (k := 0) (by omega)
    have hb : Below w.heap.size w w' := (Below.refl _ w).grown hg (Nat.le_refl _) (fun g h => by cases h)
    have HRUN := Lib.hid hrun; clear hrun
    have HCUT := Lib.hid hcut; clear hcut
    have HB := Lib.hid hb; clear hb hg hown hzc
    have hn1 : ((n : Int) == 0) = false := by simp; omega
    go_enter Tryd.func94, Tryd.ntmps94
    go_wp2_with (at_builtin; go_must (refine wpList_append_run rfl (.tmp 20) (.tmp 21) 42 3 rfl _ _ rfl rfl HRUN.out ?_))
    go_ret
    exact ⟨_, rfl, by simpa using HCUT.out, HB.out⟩

theorem flat_takeG {α : Type} {L : List (List α)} {k : Nat} (h : k < L.length) : (L.take (k + 1)).flatten = (L.take k).flatten ++ L[k] := by
  rw [List.take_add_one, List.getElem?_eq_getElem h]
  show (L.take k ++ [L[k]]).flatten = _
  rw [List.flatten_append]
  congr 1
  exact List.append_nil _
theorem flat_leG {α : Type} (L : List (List α)) (k : Nat) : (L.take k).flatten.length ≤ L.flatten.length := by
  have h : L.flatten = (L.take k).flatten ++ (L.drop k).flatten := by rw [← List.flatten_append, List.take_append_drop]
  rw [h, List.length_append]
  omega

def Concat2Post (L : List (List (List Nd))) (w : World) (e : Ending) (w' : World) : Prop := ∃ v, e = .returned v ∧ ReadNN w' v L.flatten ∧ Below w.heap.size w w'
/-- a row of the call's own whose elements read, in w, as L's -/
def Own2 (w wq : World) (x : Value) (L : List (List Nd)) : Prop := ∃ xs, wq.ownsRow w.heap.size 22 1 x L.length xs ∧ AllN w xs L

set_option maxRecDepth 20000 in
set_option maxHeartbeats 2000000 in
theorem concat2_any (L : List (List (List Nd))) (v : Value) (w : World) (hv : ReadNNN w v L) (hn : L.flatten.length ≤ 1000000) :
    Calls Tryd.prog 86 #[v] w (Concat2Post L w) := by
  obtain ⟨i0, hi, hz0, hz1, hz2⟩ := info_parts Tryd.infoNodes
  obtain ⟨hm, ⟨h0, a, cap, rfl⟩ | ⟨b, off, cap, rfl, hbw⟩⟩ := hv.shape
  · subst h0
    go_enter Tryd.func86, Tryd.ntmps86
    go_wp2_with fail
    go_loopw [3, 11] (fun n i wr => n = .int .i64 0 ∧ i = .int .i64 0 ∧ wr = w) (fun _ _ _ => 0)
    case atStart => exact ⟨rfl, rfl, rfl⟩
    case round =>
      obtain ⟨rfl, rfl, rfl⟩ := hrel
      go_wp2_with fail
      refine (grow2_any 0 _ (by omega)).mono ?_
      rintro e w1 ⟨u, rfl, hu, hb⟩
      have HU := Lib.hid hu; clear hu
      have HB := Lib.hid hb; clear hb
      go_wp2_with fail
      go_loopw [6, 27] (fun x i wr => x = u ∧ i = .int .i64 0 ∧ wr = w1) (fun _ _ _ => 0)
      case atStart => exact ⟨rfl, rfl, rfl⟩
      case round =>
        obtain ⟨rfl, rfl, rfl⟩ := hrel
        go_wp2_with fail
        go_ret
        exact ⟨_, rfl, ReadNN.mk (RowAt.of_own HU.out) ⟨rfl, fun i u l h => by simp at h⟩, HB.out⟩
  have HV := Lib.hid hv; clear hv
  have hm9 : L.length ≤ 9223372036854775807 := by unfold maxLen at hm; omega
  clear hm
  go_enter Tryd.func86, Tryd.ntmps86
  go_wp2_with fail
  go_loopw [3, 11] (fun n i wr => (∃ k : Nat, k ≤ L.length ∧ i = .int .i64 (k : Int) ∧ n = .int .i64 ((L.take k).flatten.length : Int)) ∧ wr = w) (fun _ i _ => L.length - (intOf i).toNat)
  case atStart => exact ⟨⟨0, Nat.zero_le _, rfl, rfl⟩, rfl⟩
  case round =>
    obtain ⟨⟨k, hk, rfl, rfl⟩, rfl⟩ := hrel
    have hle := flat_leG L k
    by_cases hlt : k < L.length
    · obtain ⟨a1, c1, g1, r1⟩ := HV.out.at hlt
      have hft := flat_takeG hlt
      have hle2 := flat_leG L (k + 1)
      rw [hft, List.length_append] at hle2
      have hln : (L.take (k + 1)).flatten.length = (L.take k).flatten.length + L[k].length := by rw [hft, List.length_append]
      have HLN := Lib.hid hln
      obtain ⟨p, hp⟩ : ∃ p, (L.take k).flatten.length = p := ⟨_, rfl⟩
      obtain ⟨q, hq⟩ : ∃ q, L[k].length = q := ⟨_, rfl⟩
      rw [hp, hq] at hle2 HLN
      rw [hp] at hle ⊢
      rw [hq] at g1
      clear r1 hft hln hp hq
      have hp6 : p ≤ 1000000 := by omega
      have hq6 : q ≤ 1000000 := by omega
      go_wp2_with fail
      refine ⟨⟨⟨k + 1, by omega, by go_num, by rw [HLN.out]; go_num⟩, trivial⟩, by simp [intOf]; omega⟩
    · obtain rfl : k = L.length := by omega
      rw [List.take_length]
      obtain ⟨p, hp⟩ : ∃ p, L.flatten.length = p := ⟨_, rfl⟩
      have hp6 : p ≤ 1000000 := by omega
      rw [hp]
      clear hp
      go_wp2_with fail
      refine (grow2_any p _ hp6).mono ?_
      rintro e w1 ⟨u, rfl, hu, hb⟩
      have HU := Lib.hid hu; clear hu
      have HB := Lib.hid hb; clear hb
      clear hle
      go_wp2_with fail
      go_loopw [6, 27] (fun x i wq => ∃ k : Nat, k ≤ L.length ∧ i = .int .i64 (k : Int) ∧ Own2 wr wq x (L.take k).flatten ∧ Below wr.heap.size wr wq) (fun _ i _ => L.length - (intOf i).toNat)
      case atStart => exact ⟨0, Nat.zero_le _, rfl, ⟨[], by simpa using HU.out, by simp, fun i u l h => by simp at h⟩, HB.out⟩
      case round =>
        rename World => wq
        obtain ⟨k, hk, rfl, ho, hb⟩ := hrel
        have HO := Lib.hid ho; clear ho
        have HBB := Lib.hid hb; clear hb
        by_cases hlt : k < L.length
        · obtain ⟨a1, c1, g0, r1⟩ := HV.out.at hlt
          have g1 := (HBB.out.cell (p := ⟨b, off + k, none⟩) hbw).trans g0
          clear g0
          have R1 := Lib.hid r1; clear r1
          have hft := flat_takeG hlt
          have hle2 := flat_leG L (k + 1)
          rw [hft, List.length_append] at hle2
          obtain ⟨us, ru, au⟩ := R1.out.all
          obtain ⟨xs, ox, ax⟩ := HO.out
          obtain ⟨ao, co, rfl, _⟩ := (RowAt.of_own ox).form
          have RU := Lib.hid (ru.below HBB.out); clear ru
          have AU := Lib.hid au; clear au
          have OX := Lib.hid ox; clear ox
          have AX := Lib.hid ax; clear ax
          have HFT := Lib.hid hft; clear hft
          go_wp2_with (at_builtin; go_must (refine wpList_append_row rfl (.tmp 31) (.tmp 32) 42 rfl wr.heap.size 22 i0 (.slice none 0 0) 1 24 Tryd.underlying42 hi hz0 hz1 hz2 rfl (by decide) (.slice ao (L.take k).flatten.length co) (L.take k).flatten.length xs rfl OX.out (.slice a1 L[k].length c1) L[k].length us rfl RU.out AU.out.one (by omega) (by unfold maxLen; omega) (by have := HBB.out.size; omega) ?_); intro v5 w5 hown5 hg5 hat5)
          have hb5 : Below wr.heap.size wr w5 := HBB.out.grown hg5 (by have := HBB.out.size; omega) (fun g hg => (OX.out.lt g hg).1)
          have HO5 := Lib.hid hown5; clear hown5 hg5 hat5
          have HB5 := Lib.hid hb5; clear hb5
          go_wp2_with fail
          refine ⟨⟨k + 1, by omega, by go_num, ?_, HB5.out⟩, by simp [intOf]; omega⟩
          rw [HFT.out]
          exact ⟨xs ++ us, by rw [List.length_append]; exact HO5.out, AX.out.append AU.out⟩
        · obtain rfl : k = L.length := by omega
          rw [List.take_length] at HO
          go_wp2_with fail
          go_ret
          obtain ⟨xs, ox, ax⟩ := HO.out
          exact ⟨_, rfl, ReadNN.mk (RowAt.of_own ox) (ax.below HBB.out), HBB.out⟩

end Go.Proofs.YteldkcpkamgfpaaDoor
