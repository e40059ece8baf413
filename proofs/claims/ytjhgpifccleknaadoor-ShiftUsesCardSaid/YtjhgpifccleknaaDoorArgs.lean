/- What term.Args comes to, for every row of nodes, where the table of shapes lies as it is laid. -/
import Derived.Test.YtjhgpifccleknaaDoorClone
import Derived.Test.YtjhgpifccleknaaDoorOpenN
import Derived.Shelf.RegionOpen
namespace Go.Proofs.YtjhgpifccleknaaDoor
set_option linter.unusedSimpArgs false
set_option linter.unusedVariables false
open Go.RowKit
attribute [local go_sem] Oper.semAt_some

theorem Tryd.infoNodes : (Tryd.prog.info? 30).map (fun i => (i.zero, i.size, i.bytes)) = some (some (.slice none 0 0), 1, 24) := by kernel_rfl

theorem run_make_nils {P : Program} (t e : TypeId) (i : TypeInfo) (ht : P.underlying t = some (.slice e)) (hi : P.info? e = some i) (hz : i.zero = some (.slice none 0 0)) (hsz : i.size = 1) (hby : i.bytes = 24) (n : Nat) (hn : n ≤ 100000) (w : World) :
    (Instr.makeSlice t (.int .i64 (n : Int)) (.int .i64 (n : Int))).run P w = .ok (.slice (some ⟨w.heap.size, 0, none⟩) n n) (w.alloc (.cells (List.replicate n (Value.slice none 0 0)).toArray e)) := by
  have hb : (i.bytes : Int) * (n : Int) ≤ 281474976710656 := by rw [hby]; omega
  have hr := run_make (P := P) w t e i _ ht hi hz .i64 .i64 n n (by omega) (by omega) hb (by omega)
  simp only [Int.toNat_natCast] at hr
  rw [hr]
  congr 3
  rw [hsz, Nat.mul_one]
  apply Array.ext'
  rw [show (Value.slice none 0 0).cells = #[Value.slice none 0 0] from rfl, toList_madeCells_one]

/-- a part of a root, as it reads -/
theorem part_read {w : World} {b off cap : Nat} {nd : Nd} {cs : List Tm} (h : ReadN w (.slice (some ⟨b, off, none⟩) (Tm.mk nd cs).flat.length cap) (Tm.mk nd cs).flat) {i : Nat} (hi : i < cs.length) :
    ReadN w (partV b off cap cs i) cs[i].flat := by
  obtain ⟨b', off', cap', he, h1, h2, h3, h4⟩ := RowAt.pos h (by simp [flat_mk])
  obtain ⟨⟨rfl, rfl⟩, rfl⟩ : (b = b' ∧ off = off') ∧ cap = cap' := by simpa using he
  have hs := startP_succ cs hi
  have hle := startP_le cs (i + 1)
  have hl : (Tm.mk nd cs).flat.length = (flatL cs).length + 1 := by rw [flat_mk, List.length_append]; rfl
  have hsp : (Tm.mk nd cs).flat = flatL (cs.take i) ++ cs[i].flat ++ (flatL (cs.drop (i + 1)) ++ [nd]) := by
    have e : cs = cs.take i ++ [cs[i]] ++ cs.drop (i + 1) := by simp
    rw [flat_mk]
    conv => lhs; rw [e]
    rw [flatL_append, flatL_append, flatL_one]
    simp
  unfold ReadN partV
  have hlen : startP cs (i + 1) - startP cs i = cs[i].flat.length := by omega
  rw [hlen]
  refine ⟨nodes_length _, _, _, rfl, by omega, by omega, fun hn => ⟨b, _, rfl, h3, fun j u hu => ?_⟩⟩
  rw [Nat.add_assoc]
  refine h4 _ _ ?_
  have hj : j < cs[i].flat.length * 4 := by rw [← nodes_length]; exact (List.getElem?_eq_some_iff.1 hu).1
  rw [hsp, List.flatMap_append, List.flatMap_append, List.append_assoc, List.getElem?_append_right (by rw [nodes_length]; unfold startP; omega), nodes_length]
  have e : startP cs i * 4 + j - (flatL (cs.take i)).length * 4 = j := by unfold startP; omega
  rw [e, List.getElem?_append_left (by rw [nodes_length]; exact hj)]
  exact hu

/-- four blocks laid one behind the other -/
theorem four_blocks (w : World) (x0 x1 x2 x3 : Array Value) (t0 t1 t2 t3 : TypeId) : ∃ W, ((((w.alloc (Obj.cells x0 t0)).alloc (Obj.cells x1 t1)).alloc (Obj.cells x2 t2)).alloc (Obj.cells x3 t3)) = W ∧ W.heap.size = w.heap.size + 4 ∧ Below w.heap.size w W ∧
    Blk W w.heap.size t0 x0 ∧ Blk W (w.heap.size + 1) t1 x1 ∧ Blk W (w.heap.size + 1 + 1) t2 x2 ∧ Blk W (w.heap.size + 1 + 1 + 1) t3 x3 := by
  refine ⟨_, rfl, by simp, ?_, ?_, ?_, ?_, ?_⟩
  · exact ((((Below.refl _ w).alloc (Nat.le_refl _) _).alloc (by simp) _).alloc (by simp; omega) _).alloc (by simp; omega) _
  · exact (((Blk.new w _ _).alloc _).alloc _).alloc _
  · have := Blk.new (w.alloc (Obj.cells x0 t0)) t1 x1; rw [World.size_alloc] at this; exact (this.alloc _).alloc _
  · have := Blk.new ((w.alloc (Obj.cells x0 t0)).alloc (Obj.cells x1 t1)) t2 x2; rw [World.size_alloc, World.size_alloc] at this; exact this.alloc _
  · have := Blk.new (((w.alloc (Obj.cells x0 t0)).alloc (Obj.cells x1 t1)).alloc (Obj.cells x2 t2)) t3 x3; rw [World.size_alloc, World.size_alloc, World.size_alloc] at this; exact this

/-- a slice that reads as nodes, in a block that is none of S -/
def ReadS (S : Bset) (A : World) (u : Value) (l : List Nd) : Prop := ReadN A u l ∧ ∀ g, u.ownBlock = some g → ¬ S g ∧ g < A.heap.size
theorem ReadS.stab {S S' : Bset} {A B : World} {u : Value} {l : List Nd} (h : ReadS S A u l) (hc : Chg S A B) (hs : ∀ b, S' b → S b ∨ A.heap.size ≤ b) : ReadS S' B u l :=
  ⟨RowAt.kept h.1 (hc.kept (K := fun b => ¬ S b) (fun _ h => h)) (fun g hg => (h.2 g hg).1), fun g hg => ⟨fun h' => by rcases hs g h' with h' | h'; exact (h.2 g hg).1 h'; have := (h.2 g hg).2; omega, by have := (h.2 g hg).2; have := hc.size; omega⟩⟩
theorem Blk.stab {S : Bset} {A B : World} {g : Nat} {t : TypeId} {cs : Array Value} (h : Blk A g t cs) (hn : ¬ S g) (hc : Chg S A B) : Blk B g t cs := (hc.block g h.lt hn).trans h

/-- what Args' loop holds: of the parts that have come, each is a slice of its own -/
def ArgsI (w w2 : World) (cs : List Tm) (j : Nat) (S : Bset) (A : World) : Prop :=
  (Below w.heap.size w A ∧ w2.heap.size + 4 ≤ A.heap.size) ∧ (∀ b, S b → w2.heap.size + 4 ≤ b) ∧ Blk A (w2.heap.size + 1) 41 #[.slice (some ⟨w2.heap.size, 0, none⟩) cs.length cs.length] ∧
  ∃ arr : Array Value, Blk A w2.heap.size 30 arr ∧ arr.size = cs.length ∧ ∀ i (h : i < cs.length), cs.length - j ≤ i → ∃ u, arr[i]? = some u ∧ ReadS (fun b => S b ∨ b < w2.heap.size + 4) A u (cs[i]).flat
theorem ArgsI.stab {w w2 : World} {cs : List Tm} (hw : w.heap.size ≤ w2.heap.size) : Stab (ArgsI w w2 cs) := by
  rintro j S A B S' ⟨⟨h1, h0⟩, h2, h3, arr, h4, h5, h6⟩ hc hs
  refine ⟨⟨h1.trans (hc.to_below (fun b h => by have := h2 b h; omega) h1.size), by have := hc.size; omega⟩, fun b h => ?_, h3.stab (fun h => by have := h2 _ h; omega) hc, arr, h4.stab (fun h => by have := h2 _ h; omega) hc, h5, fun i hi hj => ?_⟩
  · rcases hs b h with h | h
    · exact h2 b h
    · omega
  · obtain ⟨u, hu, hr⟩ := h6 i hi hj
    refine ⟨u, hu, hr.stab (hc.mono fun b _ h => .inl h) fun b h => ?_⟩
    rcases h with h | h
    · rcases hs b h with h | h
      · exact .inl (.inl h)
      · exact .inr h
    · exact .inl (.inr h)

theorem below_of_drew {C w : World} (h : Below C.drew.heap.size C.drew w) : Below C.heap.size C w := ⟨h.os, h.tape, h.output, h.size, h.block⟩
theorem RowAt.of_blk {w : World} {g : Nat} {t : TypeId} {cs : Array Value} {n size : Nat} (h : Blk w g t cs) (hs : cs.size = n * size) (hn : n ≤ maxLen) : RowAt w size (.slice (some ⟨g, 0, none⟩) n n) n cs.toList :=
  ⟨by simpa using hs, _, n, rfl, Nat.le_refl _, hn, fun _ => ⟨g, 0, rfl, h.lt, fun j u hu => by rw [Nat.zero_add, h.cell]; simpa using hu⟩⟩
theorem args_read {w w2 : World} {cs : List Tm} {S : Bset} {A : World} (h : ArgsI w w2 cs cs.length S A) (hm : cs.length ≤ 4000) : ReadNN A (.slice (some ⟨w2.heap.size, 0, none⟩) cs.length cs.length) (cs.map Tm.flat) := by
  obtain ⟨_, _, _, arr, h4, h5, h6⟩ := h
  have hl : (cs.map Tm.flat).length = cs.length := by simp
  refine ⟨arr.toList, by simp [h5], ?_, fun i hi u hu => ?_⟩
  · rw [hl]
    exact RowAt.of_blk h4 (by omega) (by unfold maxLen; omega)
  · rw [hl] at hi
    obtain ⟨u', hu', hr⟩ := h6 i hi (by omega)
    have e : u' = u := by
      have h7 : arr[i]? = some u := by simpa using hu
      exact Option.some.inj (hu'.symm.trans h7)
    subst e
    simpa using hr.1
theorem args_step {w w2 : World} {cs : List Tm} {j k : Nat} {S : Bset} {C w9 : World} {arr : Array Value} {a9 : Option Addr} {d c9 : Nat} (hw : w.heap.size ≤ w2.heap.size) (hk : cs.length = k + 1 + j) (hkl : k < cs.length) (hbC : Below w.heap.size w C) (hsC : w2.heap.size + 4 ≤ C.heap.size) (hSC : ∀ b, S b → w2.heap.size + 4 ≤ b) (hS : ∀ b, S b → b < C.heap.size)
    (hbl : Blk C (w2.heap.size + 1) 41 #[.slice (some ⟨w2.heap.size, 0, none⟩) cs.length cs.length]) (harr : Blk C w2.heap.size 30 arr) (hasz : arr.size = cs.length) (hall : ∀ i (h : i < cs.length), cs.length - j ≤ i → ∃ u, arr[i]? = some u ∧ ReadS (fun b => S b ∨ b < w2.heap.size + 4) C u (cs[i]).flat)
    (hr9 : ReadN w9 (.slice a9 d c9) (cs[k]).flat) (hl9 : ∀ g, (Value.slice a9 d c9).ownBlock = some g → C.heap.size ≤ g) (hb9 : Below C.heap.size C w9) :
    Kept (fun b => S b ∨ (b < w2.heap.size ∨ b = w2.heap.size + 1 + 1 ∨ b = w2.heap.size + 1 + 1 + 1)) C (w9.setCell ⟨w2.heap.size, k, none⟩ (.slice a9 d c9)) ∧ ArgsI w w2 cs (j + 1) S (w9.setCell ⟨w2.heap.size, k, none⟩ (.slice a9 d c9)) := by
  have hbl9 := hbl.below hb9 (by omega)
  have harr9 := harr.below hb9 (by omega)
  have hcs : Chg (fun b => b = w2.heap.size) w9 (w9.setCell ⟨w2.heap.size, k, none⟩ (.slice a9 d c9)) := Chg.setCell _ _ _ rfl
  have hcc : Chg (fun b => b = w2.heap.size) C (w9.setCell ⟨w2.heap.size, k, none⟩ (.slice a9 d c9)) := (Chg.fresh hb9).trans hcs
  refine ⟨hcc.kept (fun b h => ?_), ⟨hbC.trans (hcc.to_below (fun b h => by omega) hbC.size), by have := hcc.size; omega⟩, hSC, hbl9.far (by simp) _, arr.setIfInBounds k (.slice a9 d c9), harr9.set_ k _, by simp [hasz], fun i hi hj => ?_⟩
  · rcases h with h | h
    · have := hSC b h; omega
    · omega
  · by_cases e : i = k
    · subst e
      refine ⟨.slice a9 d c9, by simp [hasz, hi], ?_, fun g hg => ⟨fun h => by have := hl9 g hg; rcases h with h | h; have := hS g h; omega; omega, ?_⟩⟩
      · exact RowAt.kept hr9 (hcs.kept (K := fun b => b ≠ w2.heap.size) (fun b h => h)) (fun g hg => by have := hl9 g hg; omega)
      · have h1 : 0 < (cs[i]).flat.length := flat_pos _
        obtain ⟨b, off, cap, he, _, _, hlt, _⟩ := RowAt.pos hr9 h1
        rw [he] at hg
        simp [Value.ownBlock] at hg
        subst hg
        have := hcs.size
        omega
    · obtain ⟨u, hu, hr⟩ := hall i hi (by omega)
      refine ⟨u, by rw [Array.getElem?_setIfInBounds_ne (by omega)]; exact hu, ?_⟩
      exact hr.stab (hcc.mono fun b _ h => .inr (by omega)) (fun b h => .inl h)

def ArgsPost (l : List Nd) (w : World) (e : Ending) (w' : World) : Prop :=
  ∃ v, e = .returned (.tuple #[v, .int .i64 (chk l)]) ∧ (chk l = 0 → ∃ nd cs, whole l = some (Tm.mk nd cs) ∧ ReadNN w' v (cs.map Tm.flat)) ∧ (chk l ≠ 0 → v = .slice none 0 0) ∧ Below w.heap.size w w'

set_option maxRecDepth 20000 in
set_option maxHeartbeats 2000000 in
theorem targs_bad (l : List Nd) (v : Value) (w : World) (hS : ShapesAt w) (hv : ReadN w v l) (hs : SmallN l) (hk : chk l ≠ 0) :
    Calls Tryd.prog 35 #[v] w (ArgsPost l w) := by
  have HV := Lib.hid hv; clear hv
  have HS := Lib.hid hS; clear hS
  have HSM := Lib.hid hs; clear hs
  obtain ⟨c, hc⟩ : ∃ c, chk l = c := ⟨_, rfl⟩
  rw [hc] at hk
  have HC := Lib.hid hc; clear hc
  have hkb : (c != 0) = true := by simpa using hk
  refine callsIn_wide.1 (callsIn_of_wp_marks (n := 3) Tryd.func35 rfl trivial ?_)
  simp only [Tryd.ntmps35, List.size_toArray, List.length_cons, List.length_nil, Nat.reduceAdd, Nat.reduceSub, Array.replicate_succ, Array.replicate_zero, List.push_toArray, List.append_toArray, List.nil_append, List.cons_append]
  gi_wp2_with fail
  refine enterW2 (look_any l _ w HS.out HV.out HSM.out) ?_
  rintro e w1 ⟨u, rfl, _, hb⟩
  rw [HC.out]
  have HB := Lib.hid hb; clear hb
  gi_wp2_with fail
  exact postM0 (results_tmp2 rfl _ _ _) rfl ⟨_, by rw [HC.out]; rfl, (fun h => absurd (HC.out.symm.trans h) hk), fun _ => rfl, HB.out⟩

set_option maxRecDepth 20000 in
set_option maxHeartbeats 4000000 in
theorem targs_good (l : List Nd) (v : Value) (w : World) (hS : ShapesAt w) (hv : ReadN w v l) (hs : SmallN l) (hk : chk l = 0) :
    Calls Tryd.prog 35 #[v] w (ArgsPost l w) := by
  obtain ⟨hle, t, hw, hd⟩ := chk_ok hk
  obtain ⟨hwf, hfl⟩ := whole_some hw
  obtain ⟨nd, cs⟩ := t
  subst hfl
  obtain ⟨hr, har, hks⟩ := wf_iff.1 hwf
  obtain ⟨c, hc⟩ : ∃ c, (flatL cs).length = c := ⟨_, rfl⟩
  have hl : (Tm.mk nd cs).flat.length = c + 1 := by rw [flat_mk, List.length_append, hc]; rfl
  have hlast : (Tm.mk nd cs).flat[c]? = some nd := by rw [flat_mk, List.getElem?_append_right (by omega), hc]; simp
  obtain ⟨hclt, hcn⟩ := List.getElem?_eq_some_iff.1 hlast
  obtain ⟨_, ⟨he, _⟩ | ⟨b, off, cap, he, hcap1, hcap2, hblt, hcell⟩⟩ := ReadN.cases hv
  · rw [he] at hl; simp at hl
  subst he
  have hcell0 := hcell c hclt
  rw [hcn] at hcell0
  obtain ⟨r0, r1, r2, r3⟩ := hcell0
  clear hcell hcn hlast hclt
  obtain ⟨i0, hi, hz0, hz1, hz2⟩ := info_parts Tryd.infoNodes
  have HV := Lib.hid hv; clear hv
  have HS := Lib.hid hS; clear hS
  have HSM := Lib.hid hs; clear hs
  have HK := Lib.hid hk; clear hk
  have HWH := Lib.hid hw; clear hw
  have HWF := Lib.hid hwf; clear hwf
  have HAR := Lib.hid har
  have HHL := Lib.hid hl
  have HC := Lib.hid hc
  have hm4 : cs.length ≤ 4000 := by have := flatL_ge cs; omega
  have hcap3 : cap ≤ 9223372036854775807 := by unfold maxLen at hcap2; omega
  rw [hl] at hcap1 hle ⊢
  clear har hl hc hcap2 hd
  have hmk := fun w => run_make_nils (P := Tryd.prog) 41 30 i0 Tryd.underlying41 hi hz0 hz1 hz2 cs.length (by omega) w
  refine callsIn_wide.1 (callsIn_of_wp_marks (n := 3) Tryd.func35 rfl trivial ?_)
  simp only [Tryd.ntmps35, List.size_toArray, List.length_cons, List.length_nil, Nat.reduceAdd, Nat.reduceSub, Array.replicate_succ, Array.replicate_zero, List.push_toArray, List.append_toArray, List.nil_append, List.cons_append]
  gi_wp2_with fail
  refine enterW2 (look_any (Tm.mk nd cs).flat _ w HS.out (by rw [← HHL.out]; exact HV.out) HSM.out) ?_
  rintro e w1 ⟨u, rfl, hown0, hb⟩
  have hown := hown0 HK.out
  rw [HK.out]
  clear hown0
  rw [HHL.out] at hown
  obtain ⟨gm, capm, rfl, hgm1, hgm2, _, _, _, _, _⟩ := ownsRow_open hown (by omega)
  have HO := Lib.hid (RowAt.of_own hown); clear hown
  have s0 := (hb.cell (p := ⟨b, off + c * 4, none⟩) hblt).trans r0
  have s1 := (hb.cell (p := ⟨b, off + c * 4 + 1, none⟩) hblt).trans r1
  have s2 := (hb.cell (p := ⟨b, off + c * 4 + 2, none⟩) hblt).trans r2
  have s3 := (hb.cell (p := ⟨b, off + c * 4 + 3, none⟩) hblt).trans r3
  have hS1 := HS.out.below hb
  have HS1 := Lib.hid hS1; clear hS1
  have HB := Lib.hid hb; clear hb r0 r1 r2 r3
  gi_wp2_with fail
  refine enterW2 (many_any nd _ HS1.out hr) ?_
  rintro e w2 ⟨rfl, hb2⟩
  rw [← HAR.out]
  have HO2 := Lib.hid (HO.out.below hb2)
  have HS2 := Lib.hid (HS1.out.below hb2)
  have hb3 := HB.out.trans (hb2.mono HB.out.size)
  have hgm3 : gm < w2.heap.size := by have := hb2.size; omega
  have HB3 := Lib.hid hb3; clear hb3 hb2 s0 s1 s2 s3
  gi_wp2_with fail
  refine enterW2 (backward_any _ _ _ _ _ _ _) ?_
  rintro e W6 ⟨rfl, rfl⟩
  gi_wp2_with fail
  obtain ⟨W0, hW0, hsz, hbw, b0, b1, bt, bm⟩ := four_blocks w2 (Array.replicate cs.length (Value.slice none 0 0)) #[.slice (some ⟨w2.heap.size, 0, none⟩) cs.length cs.length] #[.slice (some ⟨b, off, none⟩) (c + 1) cap] #[.slice (some ⟨gm, 0, none⟩) (c + 1) capm] 30 41 30 73
  rw [hW0]
  have hle2 : w.heap.size ≤ w2.heap.size := HB3.out.size
  have hit := back_iter 2 nd cs HWF.out (by rw [HHL.out]; exact hle) b off cap (w2.heap.size + 1 + 1) (w2.heap.size + 1 + 1 + 1) (.slice (some ⟨gm, 0, none⟩) (c + 1) capm) (fun b => b < w2.heap.size ∨ b = w2.heap.size + 1 + 1 ∨ b = w2.heap.size + 1 + 1 + 1) W0
    (HS2.out.below hbw) (by rw [bt.cell 0, HHL.out]; rfl) (by rw [bm.cell 0]; rfl) (HV.out.below (HB3.out.trans (hbw.mono hle2))) (by rw [HHL.out]; exact HO2.out.below hbw) (.inr (.inl rfl)) (.inr (.inr rfl)) (.inl (by omega)) (fun g hg => .inl (by simp [Value.ownBlock] at hg; omega))
  have HIT := Lib.hid hit; clear hit
  have h0 : ArgsI w w2 cs 0 (fun _ => False) W0 := ⟨⟨HB3.out.trans (hbw.mono hle2), by omega⟩, (fun b h => h.elim), b1, _, b0, by simp, fun i hi hj => by omega⟩
  have H0 := Lib.hid h0; clear h0
  have HSZ := Lib.hid hsz; clear hsz
  have HBW := Lib.hid hbw; clear hbw b0 b1 bt bm hW0
  refine wpIn_rangeFunc_round (F := Fence.wide) (n := 3) (K := fun b => b < w2.heap.size ∨ b = w2.heap.size + 1 + 1 ∨ b = w2.heap.size + 1 + 1 + 1) (w0 := W0) (N := cs.length) (enc := encB b off cap cs)
    (lb := #[.pointer (some ⟨w2.heap.size + 1 + 1, 0, none⟩), .pointer (some ⟨w2.heap.size + 1 + 1 + 1, 0, none⟩)]) (gf := 87) rfl (by omega) rfl trivial (enters_of Tryd.func87 (by kernel_rfl) rfl) HIT.out
    (Kept.refl _ _) (Nat.le_refl _) (fun b h => by have := HSZ.out; omega) (fun j => rfl) (ArgsI w w2 cs) (fun _ _ _ _ => False) (ArgsI.stab hle2)
    (fun _ _ _ _ _ _ h _ _ => h) H0.out ?round ?done (fun D cd j S A _ h => h.elim)
  case round =>
    intro l j S A hj hi hS
    obtain ⟨k, hk⟩ : ∃ k, cs.length = k + 1 + j := ⟨cs.length - 1 - j, by omega⟩
    have hkl : k < cs.length := by omega
    have e3 : cs.length - 1 - j = k := by omega
    obtain ⟨d, hd⟩ : ∃ d, startP cs (k + 1) - startP cs k = d := ⟨_, rfl⟩
    obtain ⟨s0, hs0⟩ : ∃ s0, startP cs k = s0 := ⟨_, rfl⟩
    have hdl : d = (cs[k]).flat.length := by have := startP_succ cs hkl; omega
    have hen : encB b off cap cs j = #[.int .i64 (k : Int), .slice (some ⟨b, off + s0 * 4, none⟩) d (cap - s0)] := by unfold encB partV; rw [e3, hs0, ← hd, hs0]
    have hpr := part_read HV.out hkl
    unfold partV at hpr
    rw [hd, hs0] at hpr
    rw [hen]
    have HPR := Lib.hid hpr; clear hpr
    have HI := Lib.hid hi; clear hi
    have HSS := Lib.hid hS; clear hS
    have HDL := Lib.hid hdl
    have HKK := Lib.hid hk
    clear hen hd hs0 e3 hk hdl
    gi_wp2_with fail
    refine ⟨Kept.refl _ _, fun C hC => ?_⟩
    obtain ⟨⟨hbC, hsC⟩, hSC, hbl, arr, harr, hasz, hall⟩ := ArgsI.stab hle2 j S A C S HI.out hC (fun b h => .inl h)
    have hprC := RowAt.drew (HPR.out.below hbC)
    have HPC := Lib.hid hprC; clear hprC
    have k1 : k < arr.size := by omega
    have hold : arr[k]? = some arr[k] := Array.getElem?_eq_getElem k1
    obtain ⟨old, hol⟩ : ∃ u, arr[k] = u := ⟨_, rfl⟩
    rw [hol] at hold
    have c0 : C.cell? ⟨w2.heap.size + 1, 0, none⟩ = some (.slice (some ⟨w2.heap.size, 0, none⟩) cs.length cs.length) := hbl.cell 0
    have c1 : C.cell? ⟨w2.heap.size, k, none⟩ = some old := (harr.cell k).trans hold
    have c2 : C.frozen? ⟨w2.heap.size, k, none⟩ = false := harr.frozen k
    have HALL := Lib.hid hall; clear hall
    have HSC := Lib.hid hSC; clear hSC
    have HBC := Lib.hid hbC; clear hbC
    have HCC := Lib.hid hC; clear hC
    have HARR := Lib.hid harr; clear harr
    have HBL := Lib.hid hbl; clear hbl
    have HASZ := Lib.hid hasz; clear hasz
    clear hol hold
    have hone : Hid (∀ u, u ∈ (cs[k]).flat.flatMap nodeV → u.oneCell' = true) := nodes_one _
    have hnn : Hid ((cs[k]).flat.length ≤ 1000000000) := by
      show _ ≤ _
      have h1 := startP_succ cs hkl
      have h2 := startP_le cs (k + 1)
      have := HC.out
      omega
    have hmix : Tryd.prog.follows .mixedOrders = true := by kernel_rfl
    gi_wp2_with fail
    gi_region_with_o (first
      | (refine enterR2 (cloneN_own _ _ _ _ HPC.out hone hnn) ?_
         rintro e w9 ⟨a9, c9, rfl, hr9, hl9, hb9⟩
         have d0 : w9.cell? ⟨w2.heap.size + 1, 0, none⟩ = some (.slice (some ⟨w2.heap.size, 0, none⟩) cs.length cs.length) := (hb9.cell (p := ⟨w2.heap.size + 1, 0, none⟩) (by simp; omega)).trans c0
         have d1 : w9.cell? ⟨w2.heap.size, k, none⟩ = some old := (hb9.cell (p := ⟨w2.heap.size, k, none⟩) (by simp; omega)).trans c1
         have d2 : w9.frozen? ⟨w2.heap.size, k, none⟩ = false := (hb9.frozen (p := ⟨w2.heap.size, k, none⟩) (by simp; omega)).trans c2
         have HR9 := Lib.hid hr9; clear hr9
         have HL9 := Lib.hid hl9; clear hl9
         have HB9 := Lib.hid hb9; clear hb9))
    all_goals
      gi_wp2_with fail
      exact args_step hle2 HKK.out hkl HBC.out hsC HSC.out (fun b h => by have := HSS.out b h; have := HCC.out.size; omega) HBL.out HARR.out HASZ.out HALL.out HR9.out HL9.out (below_of_drew HB9.out)
  case done =>
    intro D S A hi hSD hwD hK
    have c0 : A.cell? ⟨w2.heap.size + 1, 0, none⟩ = some (.slice (some ⟨w2.heap.size, 0, none⟩) cs.length cs.length) := hi.2.2.1.cell 0
    have hst := ArgsI.stab hle2 _ S A (A.putObj D (.deferred none)) S hi (Chg.putObj _ _ _ hSD) (fun b h => .inl h)
    have HST := Lib.hid hst; clear hst
    clear hi
    gi_wp2_with fail
    exact postM1 hK rfl (results_tmp2 rfl _ _ _) ⟨_, by rw [HK.out]; rfl, fun _ => ⟨nd, cs, HWH.out, args_read HST.out hm4⟩, (fun h => absurd HK.out h), HST.out.1.1⟩

theorem targs_any (l : List Nd) (v : Value) (w : World) (hS : ShapesAt w) (hv : ReadN w v l) (hs : SmallN l) :
    Calls Tryd.prog 35 #[v] w (ArgsPost l w) := by
  by_cases hk : chk l = 0
  · exact targs_good l v w hS hv hs hk
  · exact targs_bad l v w hS hv hs hk

end Go.Proofs.YtjhgpifccleknaaDoor
