/- What the reference's Binds comes to, for every node; condition: a string's size. -/
import Derived.Test.YtjhgpifccleknaaDoorRefC
import Derived.Test.YtjhgpifccleknaaDoorRefG
namespace Go.Proofs.YtjhgpifccleknaaDoor
set_option linter.unusedSimpArgs false
set_option linter.unusedVariables false
open Go.RowKit

def RefBPost (n : Nd) (w : World) (e : Ending) (w' : World) : Prop :=
  ∃ v l, e = .returned (.tuple #[v, .bool (rightB n)]) ∧ ReadI w' v l ∧ (rightB n = true → l = (bnds n).map Int.ofNat) ∧ Below w.heap.size w w'

theorem RBPost.to {l : List Int} {b : Bool} {n : Nd} {w : World} {e : Ending} {w' : World} (h : RBPost l b w e w') (hb : rightB n = b) (hl : b = true → l = (bnds n).map Int.ofNat) : RefBPost n w e w' := by
  obtain ⟨v, rfl, h2, h3⟩ := h
  exact ⟨v, l, by rw [hb], h2, fun hr => hl (hb ▸ hr), h3⟩

theorem size_beq (S : ByteArray) : (S.size == 0) = decide (S.size = 0) := by
  by_cases h : S.size = 0
  · simp [h]
  · rw [decide_eq_false h]; exact beq_eq_false_iff_ne.2 h

set_option maxRecDepth 20000 in
set_option maxHeartbeats 2000000 in
theorem rb_none (K N M : Int) (S : ByteArray) (w : World) (hk : K < 0 ∨ 29 < K) :
    Calls Tryd.prog 23 #[.agg #[.int .i64 K, .int .i64 N, .int .i64 M, .string S]] w (RBPost [] false w) := by
  obtain ⟨w2, hw2, hsz, hown, hb, c0, c1, c2, c3⟩ := rb_start w K N M S
  have HW := Lib.hid hw2
  have HO := Lib.hid hown
  have HB := Lib.hid hb
  clear hw2 hsz hown hb c0 c1 c2 c3
  have k0 : (K == 0) = false := by rw [beq_eq_false_iff_ne]; omega
  have k1 : (K == 1) = false := by rw [beq_eq_false_iff_ne]; omega
  have k2 : (K == 2) = false := by rw [beq_eq_false_iff_ne]; omega
  have k3 : (K == 3) = false := by rw [beq_eq_false_iff_ne]; omega
  have k4 : (K == 4) = false := by rw [beq_eq_false_iff_ne]; omega
  have k5 : (K == 5) = false := by rw [beq_eq_false_iff_ne]; omega
  have k6 : (K == 6) = false := by rw [beq_eq_false_iff_ne]; omega
  have k7 : (K == 7) = false := by rw [beq_eq_false_iff_ne]; omega
  have k8 : (K == 8) = false := by rw [beq_eq_false_iff_ne]; omega
  have k9 : (K == 9) = false := by rw [beq_eq_false_iff_ne]; omega
  have k10 : (K == 10) = false := by rw [beq_eq_false_iff_ne]; omega
  have k11 : (K == 11) = false := by rw [beq_eq_false_iff_ne]; omega
  have k12 : (K == 12) = false := by rw [beq_eq_false_iff_ne]; omega
  have k13 : (K == 13) = false := by rw [beq_eq_false_iff_ne]; omega
  have k14 : (K == 14) = false := by rw [beq_eq_false_iff_ne]; omega
  have k15 : (K == 15) = false := by rw [beq_eq_false_iff_ne]; omega
  have k16 : (K == 16) = false := by rw [beq_eq_false_iff_ne]; omega
  have k17 : (K == 17) = false := by rw [beq_eq_false_iff_ne]; omega
  have k18 : (K == 18) = false := by rw [beq_eq_false_iff_ne]; omega
  have k19 : (K == 19) = false := by rw [beq_eq_false_iff_ne]; omega
  have k20 : (K == 20) = false := by rw [beq_eq_false_iff_ne]; omega
  have k21 : (K == 21) = false := by rw [beq_eq_false_iff_ne]; omega
  have k22 : (K == 22) = false := by rw [beq_eq_false_iff_ne]; omega
  have k23 : (K == 23) = false := by rw [beq_eq_false_iff_ne]; omega
  have k24 : (K == 24) = false := by rw [beq_eq_false_iff_ne]; omega
  have k25 : (K == 25) = false := by rw [beq_eq_false_iff_ne]; omega
  have k26 : (K == 26) = false := by rw [beq_eq_false_iff_ne]; omega
  have k27 : (K == 27) = false := by rw [beq_eq_false_iff_ne]; omega
  have k28 : (K == 28) = false := by rw [beq_eq_false_iff_ne]; omega
  have k29 : (K == 29) = false := by rw [beq_eq_false_iff_ne]; omega
  clear hk
  go_enter Tryd.func23, Tryd.ntmps23
  go_wp2_with fail
  go_ret2
  rw [HW.out]
  exact ⟨_, rfl, read_of_own (l := []) HO.out rfl rfl, HB.out⟩

set_option maxRecDepth 20000 in
set_option maxHeartbeats 2000000 in
theorem refbinds_any (n : Nd) (w : World) (hs : n.S.size ≤ maxLen) :
    Calls Tryd.prog 23 #[.agg #[.int .i64 n.K, .int .i64 n.N, .int .i64 n.M, .string n.S]] w (RefBPost n w) := by
  obtain ⟨K, N, M, S⟩ := n
  simp only at hs ⊢
  have hz := size_beq S
  by_cases hk : K < 0 ∨ 29 < K
  · refine (rb_none K N M S w hk).mono fun e w' h => h.to ?_ (fun h => by cases h)
    rcases hk with hk | hk
    · have : decide (0 ≤ K) = false := by simp; omega
      simp only [rightB, this, Bool.false_and]
    · have : decide (K ≤ 29) = false := by simp; omega
      simp only [rightB, this, Bool.false_and, Bool.and_false]
  have hc : K = 0 ∨ K = 1 ∨ K = 2 ∨ K = 3 ∨ K = 4 ∨ K = 5 ∨ K = 6 ∨ K = 7 ∨ K = 8 ∨ K = 9 ∨ K = 10 ∨ K = 11 ∨ K = 12 ∨ K = 13 ∨ K = 14 ∨ K = 15 ∨ K = 16 ∨ K = 17 ∨ K = 18 ∨ K = 19 ∨ K = 20 ∨ K = 21 ∨ K = 22 ∨ K = 23 ∨ K = 24 ∨ K = 25 ∨ K = 26 ∨ K = 27 ∨ K = 28 ∨ K = 29 := by omega
  rcases hc with rfl | rfl | rfl | rfl | rfl | rfl | rfl | rfl | rfl | rfl | rfl | rfl | rfl | rfl | rfl | rfl | rfl | rfl | rfl | rfl | rfl | rfl | rfl | rfl | rfl | rfl | rfl | rfl | rfl | rfl
  · exact (rb_0 N M S w).mono fun e w' h => h.to (by simp [rightB, shp, mostN, hz, Bool.and_assoc]) (fun _ => by simp [bnds, shp])
  · exact (rb_name 1 (by omega) N M S hs w).mono fun e w' h => h.to (by simp [rightB, shp, hz, Bool.and_assoc]) (fun _ => by simp [bnds, shp])
  · exact (rb_2 N M S w).mono fun e w' h => h.to (by simp [rightB, shp, mostN, lv, hz, Bool.and_assoc]) (fun _ => by simp [bnds, shp])
  · exact (rb_3 N M S w).mono fun e w' h => h.to (by simp [rightB, shp, mostN, hz, Bool.and_assoc]) (fun _ => by simp [bnds, shp])
  · exact (rb_4 N M S w).mono fun e w' h => h.to (by simp [rightB, plainB, shp, hz, Bool.and_assoc]) (fun _ => by simp [bnds, shp])
  · exact (rb_5 N M S w).mono fun e w' h => h.to (by simp [rightB, plainB, shp, hz, Bool.and_assoc]) (fun _ => by simp [bnds, shp])
  · exact (rb_6 N M S w).mono fun e w' h => h.to (by simp [rightB, shp, mostN, hz, Bool.and_assoc]) (fun _ => by simp [bnds, shp])
  · exact (rb_7 N M S w).mono fun e w' h => h.to (by simp [rightB, plainB, shp, hz, Bool.and_assoc]) (fun _ => by simp [bnds, shp])
  · exact (rb_8 N M S w).mono fun e w' h => h.to (by simp [rightB, plainB, shp, hz, Bool.and_assoc]) (fun _ => by simp [bnds, shp])
  · exact (rb_9 N M S w).mono fun e w' h => h.to (by simp [rightB, plainB, shp, hz, Bool.and_assoc]) (fun _ => by simp [bnds, shp])
  · exact (rb_10 N M S w).mono fun e w' h => h.to (by simp [rightB, plainB, shp, hz, Bool.and_assoc]) (fun _ => by simp [bnds, shp])
  · exact (rb_11 N M S w).mono fun e w' h => h.to (by simp [rightB, plainB, shp, hz, Bool.and_assoc]) (fun _ => by simp [bnds, shp])
  · exact (rb_12 N M S w).mono fun e w' h => h.to (by simp [rightB, plainB, shp, hz, Bool.and_assoc]) (fun _ => by simp [bnds, shp])
  · exact (rb_13 N M S w).mono fun e w' h => h.to (by simp [rightB, plainB, shp, hz, Bool.and_assoc]) (fun _ => by simp [bnds, shp])
  · exact (rb_14 N M S w).mono fun e w' h => h.to (by simp [rightB, plainB, shp, hz, Bool.and_assoc]) (fun _ => by simp [bnds, shp])
  · exact (rb_15 N M S w).mono fun e w' h => h.to (by simp [rightB, plainB, shp, hz, Bool.and_assoc]) (fun _ => by simp [bnds, shp])
  · exact (rb_16 N M S w).mono fun e w' h => h.to (by simp [rightB, plainB, shp, hz, Bool.and_assoc]) (fun _ => by simp [bnds, shp])
  · exact (rb_17 N M S w).mono fun e w' h => h.to (by simp [rightB, plainB, shp, hz, Bool.and_assoc]) (fun _ => by simp [bnds, shp])
  · exact (rb_18 N M S w).mono fun e w' h => h.to (by simp [rightB, plainB, shp, hz, Bool.and_assoc]) (fun _ => by simp [bnds, shp])
  · exact (rb_19 N M S w).mono fun e w' h => h.to (by simp [rightB, plainB, shp, hz, Bool.and_assoc]) (fun _ => by simp [bnds, shp])
  · exact (rb_20 N M S w).mono fun e w' h => h.to (by simp [rightB, plainB, shp, hz, Bool.and_assoc]) (fun _ => by simp [bnds, shp])
  · exact (rb_21 N M S w).mono fun e w' h => h.to (by simp [rightB, plainB, shp, hz, Bool.and_assoc]) (fun _ => by simp [bnds, shp])
  · exact (rb_22 N M S w).mono fun e w' h => h.to (by simp [rightB, plainB, shp, hz, Bool.and_assoc]) (fun _ => by simp [bnds, shp])
  · exact (rb_23 N M S w).mono fun e w' h => h.to (by simp [rightB, plainB, shp, hz, Bool.and_assoc]) (fun _ => by simp [bnds, shp])
  · exact (rb_24 N M S w).mono fun e w' h => h.to (by simp [rightB, plainB, shp, hz, Bool.and_assoc]) (fun _ => by simp [bnds, shp])
  · exact (rb_name 25 (by omega) N M S hs w).mono fun e w' h => h.to (by simp [rightB, shp, hz, Bool.and_assoc]) (fun _ => by simp [bnds, shp])
  · by_cases hno : nameB S = true ∧ 0 ≤ N ∧ N < 6 ∧ 0 ≤ M ∧ M ≤ 6
    · obtain ⟨h0, h1, h2, h3, h4⟩ := hno
      obtain ⟨m, rfl⟩ := Int.eq_ofNat_of_zero_le h3
      exact (rb_26 N m S hs w h0 h1 h2 (by omega)).mono fun e w' h => h.to (by simp [rightB, shp, mostN, h0, h1]; omega) (fun _ => by simp [bnds])
    · exact (rb_26_no N M S hs w hno).mono fun e w' h => h.to (by
        rw [Bool.eq_false_iff]
        intro hr
        simp [rightB, shp, mostN] at hr
        exact hno ⟨hr.2, by omega, by omega, by omega, by omega⟩) (fun h => by cases h)
  · by_cases hno : nameB S = true ∧ N = 0 ∧ 0 ≤ M ∧ M ≤ 6
    · obtain ⟨h0, rfl, h3, h4⟩ := hno
      obtain ⟨m, rfl⟩ := Int.eq_ofNat_of_zero_le h3
      exact (rb_27 m S hs w h0 (by omega)).mono fun e w' h => h.to (by simp [rightB, shp, h0]; omega) (fun _ => by simp [bnds])
    · exact (rb_27_no N M S hs w hno).mono fun e w' h => h.to (by
        rw [Bool.eq_false_iff]
        intro hr
        simp [rightB, shp] at hr
        exact hno ⟨hr.2, by omega, by omega, by omega⟩) (fun h => by cases h)
  · exact (rb_28 N M S w).mono fun e w' h => h.to (by simp [rightB, plainB, shp, hz, Bool.and_assoc]) (fun _ => by simp [bnds, shp])
  · exact (rb_29 N M S w).mono fun e w' h => h.to (by simp [rightB, plainB, shp, hz, Bool.and_assoc]) (fun _ => by simp [bnds, shp])

end Go.Proofs.YtjhgpifccleknaaDoor
