/- shift.Free, Uses, Has, and chapter 3's heavy and shown: what they come to. -/
import Derived.Test.YtjhgpifccleknaaDoorEach
import Derived.Test.YtjhgpifccleknaaDoorGrows
namespace Go.Proofs.YtjhgpifccleknaaDoor
set_option linter.unusedSimpArgs false
set_option linter.unusedVariables false
open Go.RowKit

def freeN (l : List Nd) : Int := if chk l = 0 then (match whole l with | some T => (fvs T T.flat.length).foldl fF 0 | none => 0) else 0
def usesN (k : Int) (l : List Nd) : Int := if chk l = 0 then (match whole l with | some T => (fvs T T.flat.length).foldl (fU k) 0 | none => 0) else 0

theorem each_end {l : List Nd} {f : Int → Int → Int} {bx : Nat} {we w' : World} {e : Ending} (h : EachPost l f bx we e w') :
    e = .returned (.int .i64 (chk l)) ∧ Blk w' bx 3 #[.int .i64 (if chk l = 0 then (match whole l with | some T => (fvs T T.flat.length).foldl f 0 | none => 0) else 0)] ∧ Below we.heap.size we w' := by
  obtain ⟨rfl, ⟨acc, h1, h2, h3⟩, h4⟩ := h
  refine ⟨rfl, ?_, h4⟩
  by_cases hk : chk l = 0
  · obtain ⟨_, T, hw, _⟩ := chk_ok hk
    rw [if_pos hk, hw]
    rw [h3 T hk hw] at h1
    exact h1
  · rw [if_neg hk]
    rw [h2 hk] at h1
    exact h1

set_option maxHeartbeats 1000000 in
theorem free_any (l : List Nd) (v : Value) (w : World) (hS : ShapesAt w) (hv : ReadN w v l) (hs : SmallN l) :
    Calls Tryd.prog 43 #[v] w fun e w' => e = .returned (.tuple #[.int .i64 (freeN l), .int .i64 (chk l)]) ∧ Below w.heap.size w w' := by
  have hE := each_free l v w (w.alloc (.cells #[.int .i64 0] 3)) w.heap.size hS hv hs ((Below.refl _ w).alloc (Nat.le_refl _) _) (Nat.le_refl _) (Blk.new _ _ _)
  have HE := Lib.hid hE; clear hE hS hs
  obtain ⟨at_, ct, rfl⟩ := ReadN.len_slice hv
  clear hv
  go_enter Tryd.func43, Tryd.ntmps43
  go_wp2_with fail
  refine HE.out.mono ?_
  intro e w1 hp
  obtain ⟨rfl, hb, hbe⟩ := each_end hp
  have c0 : w1.cell? ⟨w.heap.size, 0, none⟩ = some (.int .i64 (freeN l)) := hb.cell 0
  have HB := Lib.hid hbe
  clear hb hbe hp HE
  go_wp2_with fail
  go_ret2
  exact ⟨rfl, HB.out⟩

set_option maxHeartbeats 1000000 in
theorem uses_any (l : List Nd) (v : Value) (k : Int) (w : World) (hS : ShapesAt w) (hv : ReadN w v l) (hs : SmallN l) :
    Calls Tryd.prog 40 #[v, .int .i64 k] w fun e w' => e = .returned (.tuple #[.int .i64 (usesN k l), .int .i64 (chk l)]) ∧ Below w.heap.size w w' := by
  have hb1 : Blk ((w.alloc (.cells #[.int .i64 k] 3)).alloc (.cells #[.int .i64 0] 3)) (w.heap.size + 1) 3 #[.int .i64 0] := by
    have := Blk.new (w.alloc (.cells #[.int .i64 k] 3)) 3 #[.int .i64 0]
    rwa [World.size_alloc] at this
  have hE := each_uses l v k w.heap.size w ((w.alloc (.cells #[.int .i64 k] 3)).alloc (.cells #[.int .i64 0] 3)) (w.heap.size + 1) hS hv hs (((Below.refl _ w).alloc (Nat.le_refl _) _).alloc (by simp) _) (by omega) hb1 (Nat.le_refl _) (by omega) ((Blk.new _ _ _).alloc _)
  have HE := Lib.hid hE; clear hE hS hs hb1
  obtain ⟨at_, ct, rfl⟩ := ReadN.len_slice hv
  clear hv
  go_enter Tryd.func40, Tryd.ntmps40
  go_wp2_with fail
  refine HE.out.mono ?_
  intro e w1 hp
  obtain ⟨rfl, hb, hbe⟩ := each_end hp
  have c0 : w1.cell? ⟨w.heap.size + 1, 0, none⟩ = some (.int .i64 (usesN k l)) := hb.cell 0
  have HB := Lib.hid hbe
  clear hb hbe hp HE
  go_wp2_with fail
  go_ret2
  exact ⟨rfl, HB.out⟩

set_option maxHeartbeats 1000000 in
theorem has_any (l : List Nd) (v : Value) (k : Int) (w : World) (hS : ShapesAt w) (hv : ReadN w v l) (hs : SmallN l) :
    Calls Tryd.prog 49 #[v, .int .i64 k] w fun e w' => e = .returned (.tuple #[.bool (decide (0 < usesN k l)), .int .i64 (chk l)]) ∧ Below w.heap.size w w' := by
  have HE := Lib.hid (uses_any l v k w hS hv hs); clear hS hs
  obtain ⟨at_, ct, rfl⟩ := ReadN.len_slice hv
  clear hv
  go_enter Tryd.func49, Tryd.ntmps49
  go_wp2_with fail
  refine HE.out.mono ?_
  rintro e w1 ⟨rfl, hb⟩
  have HB := Lib.hid hb
  clear hb HE
  go_wp2_with fail
  go_ret2
  exact ⟨rfl, HB.out⟩

def oneVar : List Nd := [⟨0, 2, 0, ByteArray.empty⟩]
theorem ov_chk : chk oneVar = 0 := by decide +kernel
theorem ov_free : freeN oneVar = 3 := by decide +kernel
theorem ov_small : SmallN oneVar := by
  intro n hn
  simp [oneVar] at hn
  subst hn
  show (0 : Nat) ≤ maxLen
  omega

set_option maxRecDepth 20000 in
set_option maxHeartbeats 1000000 in
theorem shown3_any (w : World) (hS : ShapesAt w) :
    Calls Tryd.prog 39 #[] w fun e w' => e = .returned (.bool true) ∧ Below w.heap.size w w' := by
  have HS := Lib.hid hS; clear hS
  go_enter Tryd.func39, Tryd.ntmps39
  go_wp2_with fail
  refine (free_any oneVar _ _ (HS.out.alloc _) (RowAt.lit w _ _ 1 rfl (by unfold maxLen; omega)) ov_small).mono ?_
  rintro e w1 ⟨rfl, hb⟩
  rw [ov_chk, ov_free]
  have HB : Hid (Below w.heap.size w w1) := ((Below.refl _ w).alloc (Nat.le_refl _) _).trans (hb.mono (by simp))
  clear hb
  go_wp2_with fail
  go_ret
  exact ⟨rfl, HB.out⟩

set_option maxRecDepth 20000 in
set_option maxHeartbeats 1000000 in
theorem heavy3_any (l : List Nd) (v : Value) (w : World) (hv : ReadN w v l) (hs : SmallN l) :
    Calls Tryd.prog 38 #[v] w (HeavyPost l.length 300 w) := by
  obtain ⟨hm, ⟨h0, a, cap, rfl⟩ | ⟨b, off, cap, rfl, _, _, _, hc⟩⟩ := hv.cases
  · subst h0
    go_enter Tryd.func38, Tryd.ntmps38
    go_wp2_with fail
    go_loopw [3] (fun i wr => i = .int .i64 0 ∧ wr = w) (fun _ _ => 0)
    case atStart => exact ⟨rfl, rfl⟩
    case round =>
      obtain ⟨rfl, rfl⟩ := hrel
      go_wp2_with fail
      go_ret
      exact ⟨⟨_, rfl, fun _ => by simp⟩, rfl⟩
  have HC := Lib.hid hc; clear hc
  have HSM := Lib.hid hs; clear hs
  have hm9 : l.length ≤ 9223372036854775807 := by unfold maxLen at hm; omega
  clear hm hv
  by_cases h3 : l.length > 300
  · have d : decide ((l.length : Int) > 300) = true := by simp; omega
    go_enter Tryd.func38, Tryd.ntmps38
    go_wp2_with fail
    go_ret
    exact ⟨⟨true, rfl, fun h => by cases h⟩, rfl⟩
  have d : decide ((l.length : Int) > 300) = false := by simp; omega
  have hfin : Hid (l.length ≤ 300) := by show _ ≤ _; omega
  go_enter Tryd.func38, Tryd.ntmps38
  go_wp2_with fail
  go_loopw [3] (fun i wr => (∃ k : Nat, k ≤ l.length ∧ i = .int .i64 (k : Int)) ∧ wr = w) (fun i _ => l.length - (intOf i).toNat)
  case atStart => exact ⟨⟨0, Nat.zero_le _, rfl⟩, rfl⟩
  case round =>
    obtain ⟨⟨k, hk, rfl⟩, rfl⟩ := hrel
    by_cases hlt : k < l.length
    · obtain ⟨g0, g1, g2, g3⟩ := HC.out k hlt
      have hz := HSM.out l[k] (List.getElem_mem hlt)
      obtain ⟨nd, hnd⟩ : ∃ nd, l[k] = nd := ⟨_, rfl⟩
      rw [hnd] at g0 g1 g2 g3 hz
      clear hnd
      have hz9 : nd.S.size ≤ 9223372036854775807 := by unfold maxLen at hz; omega
      clear hz
      by_cases hmm : nd.S.size > 100
      · have d2 : decide ((nd.S.size : Int) > 100) = true := by simp; omega
        go_wp2_with fail
        go_ret
        exact ⟨⟨true, rfl, fun h => by cases h⟩, rfl⟩
      · have d2 : decide ((nd.S.size : Int) > 100) = false := by simp; omega
        go_wp2_with fail
        exact ⟨⟨⟨k + 1, by omega, by go_num⟩, trivial⟩, by simp [intOf]; omega⟩
    · obtain rfl : k = l.length := by omega
      go_wp2_with fail
      go_ret
      exact ⟨⟨false, rfl, fun h => hfin.out⟩, rfl⟩

end Go.Proofs.YtjhgpifccleknaaDoor
