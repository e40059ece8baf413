/- A part of the proof that the abstract interpreter is sound, and of the two goroutines of the lexer. -/
import Derived.Test.YticjebnbcnphkaaGreatDoorZF17
import Derived.Test.YticjebnbcnphkaaGreatDoorZJn

set_option linter.unusedSimpArgs false
set_option linter.unusedVariables false
set_option linter.unusedSectionVars false

namespace Go.Ai
open Go Go.Proofs
section gen
variable {P : Program}

theorem rowOf_at {sz : Nat} {x : AV} {A : AH} {f : Nat → List (List AV) → Bool} (h : rowOf sz x A f = true) : ∃ n L, f n L = true ∧ L.length = n ∧ ∀ σ w xv, VRel σ x xv → Rel σ A w →
    ∃ a cp cells, xv = .slice a n cp ∧ (n ≤ cp ∧ n ≤ 65536) ∧ RowsR σ sz L cells ∧ (n = 0 ∨ ∃ bk o, a = some ⟨bk, o, none⟩ ∧ ∀ (j : Nat) v, cells[j]? = some v → w.cell? ⟨bk, o + j, none⟩ = some v) ∨ n = 0 ∧ xv = .slice a 0 cp := by
  unfold rowOf at h
  split at h
  · obtain ⟨h1, h2⟩ := and_t.1 h
    refine ⟨0, [], h2, rfl, fun σ w xv hx _ => ?_⟩
    cases hx <;> first | exact ⟨_, _, [], .inr ⟨rfl, rfl⟩⟩ | (simp at h1)
  · rename_i t b i n c
    obtain ⟨h1, h2⟩ := and_t.1 h
    have := Nat.eq_of_beq_eq_true h1
    subst this
    obtain ⟨s, m, tr, hg, h3⟩ := asRow_t.1 h2
    obtain ⟨h4, h5⟩ := and_t.1 h3
    obtain ⟨h6, h7⟩ := and_t.1 h4
    have hs := Nat.eq_of_beq_eq_true h6
    subst hs
    obtain ⟨L, hL, hf⟩ := optK_t.1 h5
    obtain ⟨e1, e2⟩ := elems_t hL
    have him := Nat.le_of_ble_eq_true h7
    refine ⟨n, L, hf, e1, fun σ w xv hx hA => ?_⟩
    cases hx with
    | slc b i n' c a mm h0 ha hcm hnm =>
      obtain ⟨cb, base, cc, elem, lo, hi', r⟩ := hA.row hg h0
      refine ⟨some a, mm, _, .inl ⟨rfl, ⟨by omega, by have := r.le; omega⟩, r.rows e1 him e2, .inr ⟨cb, base + i * s, by rw [ha cb base s r.at'], fun j v hv => ?_⟩⟩⟩
      have h2 := get_drop_take hv
      rw [cell_at r.hc]
      simpa using h2
  · cases h

theorem strsOf_t : ∀ {L : List (List AV)} {f : List (List Nat) → Bool}, strsOf L f = true → ∃ ss, f ss = true ∧ ss.length = L.length ∧ ∀ σ cells, RowsR σ 1 L cells → cells = ss.map (fun s => .string (AV.bytes s)) ∧ ∀ s ∈ ss, ∀ c ∈ s, c < 256
  | [], f, h => ⟨[], h, rfl, fun σ cells hR => by
    have := hR.size
    simp at this
    exact ⟨by simpa using this, by simp⟩⟩
  | [] :: _, f, h => by cases h
  | (x :: q) :: r, f, h => by
    obtain ⟨s, e, h1⟩ := asStr_t.1 h
    obtain ⟨ss, h2, h3, h4⟩ := strsOf_t h1
    refine ⟨s :: ss, h2, by simp [h3], fun σ cells hR => ?_⟩
    have hq : q = [] := by
      have := (hR.1 (x :: q) (by simp)).1
      simpa using this
    subst hq
    subst e
    obtain ⟨hr1, hr2⟩ := hR
    rw [List.flatten_cons] at hr2
    cases hr2 with
    | cons hx hrest =>
      obtain ⟨ex, hs⟩ := str_inv hx
      subst ex
      obtain ⟨g1, g2⟩ := h4 σ _ ⟨fun r' hr' => hr1 r' (by simp [hr']), hrest⟩
      refine ⟨by rw [g1]; rfl, fun s' hs' => ?_⟩
      rcases List.mem_cons.1 hs' with rfl | hs'
      · exact hs
      · exact g2 s' hs'

theorem bytes_data (s : List Nat) : (AV.bytes s).data.toList = s.map UInt8.ofNat := by simp [AV.bytes]
theorem join_bytes (sep : List Nat) : ∀ ss : List (List Nat), Lib.join ((ss.map AV.bytes).map (·.data.toList)) (AV.bytes sep).data.toList = (joinS sep ss).map UInt8.ofNat
  | [] => rfl
  | [x] => by simp [Lib.join_one, joinS, bytes_data]
  | x :: y :: r => by
    have ih := join_bytes sep (y :: r)
    rw [List.map_cons, List.map_cons, Lib.join_cons]
    rw [List.map_cons, List.map_cons, Lib.join_cons] at ih
    simp only [joinS, List.map_append]
    rw [← ih, List.map_cons, List.map_cons]
    simp [Lib.joinTail, bytes_data, List.append_assoc]
theorem join_small {sep : List Nat} (h : ∀ c ∈ sep, c < 256) : ∀ {ss : List (List Nat)}, (∀ s ∈ ss, ∀ c ∈ s, c < 256) → ∀ c ∈ joinS sep ss, c < 256
  | [], _, c, hc => by cases hc
  | [x], hs, c, hc => hs x (by simp) c hc
  | x :: y :: r, hs, c, hc => by
    simp only [joinS, List.mem_append] at hc
    rcases hc with (hc | hc) | hc
    · exact hs x (by simp) c hc
    · exact h c hc
    · exact join_small h (fun s hs' => hs s (by simp at hs' ⊢; exact .inr hs')) c hc
end gen

theorem enters45 : Enters Tryz.prog 45 := ⟨Tryz.f45, by kernel_rfl, rfl, by rfl⟩
theorem join_sound {G : Goal Tryz.prog} (args : List AV) (A : AH) (K H : KV) (hk : sJoin args A K = true) : CallS G 45 args A K H := by
  unfold sJoin at hk
  split at hk
  case h_2 => cases hk
  rename_i lv sv
  obtain ⟨sep, e1, h1⟩ := asStr_t.1 hk
  obtain ⟨n, L, h2, hLn, hrow⟩ := rowOf_at h1
  obtain ⟨ss, h3, h4, h5⟩ := strsOf_t h2
  obtain ⟨h6, hK⟩ := and_t.1 h3
  have hlen : (joinS sep ss).length ≤ 65536 := Nat.le_of_ble_eq_true h6
  subst e1
  refine calls_callS enters45 hK fun σ w vs hvs hA => ?_
  obtain ⟨x, y, rfl, hx, hy⟩ : ∃ x y, vs = #[x, y] ∧ VRel σ lv x ∧ VRel σ (.str sep) y := by
    generalize hl : vs.toList = l at hvs
    cases hvs with
    | cons h hs =>
      cases hs with
      | cons h2 hs2 =>
        cases hs2
        exact ⟨_, _, Array.toList_inj.1 (by rw [hl]), h, h2⟩
  obtain ⟨ey, hsep⟩ := str_inv hy
  subst ey
  obtain ⟨a, cp, cells, h7⟩ := hrow σ w x hx hA
  have hn0 : n = 0 → ss = [] := fun h => List.eq_nil_of_length_eq_zero (by omega)
  have nil : n = 0 → x = .slice a 0 cp → Calls Tryz.prog 45 #[x, .string (AV.bytes sep)] w fun e w' => ∃ x, e = .returned x ∧ VRel σ (.str (joinS sep ss)) x ∧ (∀ k, k < w.heap.size → w'.heap[k]? = w.heap[k]?) ∧ w.heap.size ≤ w'.heap.size ∧ w'.os = w.os ∧ w'.output = w.output := fun h hx => by
    subst hx
    refine (YticjebnbcnphkaaGreatDoor.strings_Join_none a cp (AV.bytes sep) w).mono fun e w' h' => ?_
    obtain ⟨rfl, rfl⟩ := h'
    rw [hn0 h]
    exact ⟨_, rfl, .str [] (by simp), fun _ _ => rfl, Nat.le_refl _, rfl, rfl⟩
  rcases h7 with ⟨rfl, ⟨hcp, hn65⟩, hR, hc⟩ | ⟨h, h8⟩
  · rcases hc with h | ⟨bk, o, rfl, hc⟩
    · subst h; exact nil rfl rfl
    · rcases Nat.eq_zero_or_pos n with h | hpos
      · subst h; exact nil rfl rfl
      obtain ⟨ec, hsm⟩ := h5 σ cells hR
      have hcells : ∀ (j : Nat) x, (ss.map AV.bytes)[j]? = some x → w.cell? ⟨bk, o + j, none⟩ = some (.string x) := fun j x hj => hc j _ (by
        rw [ec]
        rw [List.getElem?_map] at hj ⊢
        cases hs : ss[j]? with
        | none => rw [hs] at hj; cases hj
        | some s => rw [hs] at hj; cases hj; rfl)
      have hbk : bk < w.heap.size := by
        obtain ⟨s0, hs0⟩ : ∃ s0, ss[0]? = some s0 := ⟨ss[0]'(by omega), List.getElem?_eq_getElem (by omega)⟩
        have := hcells 0 (AV.bytes s0) (by rw [List.getElem?_map, hs0]; rfl)
        exact World.block_lt_of_cell? w _ this
      have hjl : (Lib.join ((ss.map AV.bytes).map (·.data.toList)) (AV.bytes sep).data.toList).length ≤ 140737488355328 := by
        rw [join_bytes, List.length_map]; omega
      have hn : n = (ss.map AV.bytes).length := by simp; omega
      rw [hn]
      refine (YticjebnbcnphkaaGreatDoor.strings_Join bk o cp (ss.map AV.bytes) (AV.bytes sep) w hcells hbk (by omega) (by omega) hjl).mono fun e w' h' => ?_
      obtain ⟨rfl, hb⟩ := h'
      refine ⟨_, rfl, ?_, hb.block, hb.size, hb.os, hb.output⟩
      rw [join_bytes]
      exact .str _ (join_small hsep hsm)
  · exact nil h h8
end Go.Ai
