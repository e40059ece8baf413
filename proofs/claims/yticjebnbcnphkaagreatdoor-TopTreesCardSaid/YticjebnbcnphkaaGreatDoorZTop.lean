/- A part of the proof that the abstract interpreter is sound, and of the two goroutines of the lexer. -/
import Derived.Test.YticjebnbcnphkaaGreatDoorRows
import Derived.Test.YticjebnbcnphkaaGreatDoorTie
import Derived.MakeChecks
import Derived.LaidHandle
import Derived.LaidLaws
import Derived.WalkKit
import Derived.RowKit
import Derived.OpenShut
import Derived.ChangeSlices
import Derived.ChangeArms
import Derived.FnData
import Derived.KernelRfl

namespace Go.Proofs.YticjebnbcnphkaaGreatDoor
set_option linter.unusedSimpArgs false
set_option linter.unusedVariables false
open Go.ChangeShapes Go.WideShapes

structure Shp where
  id : Nat
  l : List Nat
  a : Bool
  b : Bool
  c : Bool
def shTab : List Shp := [⟨0, [], true, false, false⟩, ⟨0, [], false, false, true⟩, ⟨0, [], true, false, false⟩, ⟨5, [0, 1], true, false, false⟩, ⟨6, [0, 1], false, false, false⟩, ⟨7, [0, 0], false, false, false⟩, ⟨8, [0, 1], true, false, false⟩, ⟨9, [0, 0, 0], false, false, false⟩, ⟨10, [0], false, false, false⟩, ⟨11, [0], false, false, false⟩, ⟨0, [], false, false, false⟩, ⟨0, [], false, false, false⟩, ⟨12, [0], false, false, false⟩, ⟨13, [1, 0, 2, 0], false, false, false⟩, ⟨0, [], false, false, false⟩, ⟨14, [0, 0], false, false, false⟩, ⟨0, [], false, false, false⟩, ⟨0, [], false, false, false⟩, ⟨15, [0, 0, 0], false, false, false⟩, ⟨16, [0, 0], false, false, false⟩, ⟨17, [0, 0, 0, 0], false, false, false⟩, ⟨18, [0, 0, 1, 0, 0, 0], false, false, false⟩, ⟨19, [0, 2, 0, 0, 0], false, false, false⟩, ⟨20, [0, 0], false, false, false⟩, ⟨21, [0, 1, 0, 0], false, false, false⟩, ⟨0, [], false, false, true⟩, ⟨0, [], true, true, true⟩, ⟨0, [], false, true, true⟩, ⟨22, [0], false, false, false⟩, ⟨0, [], false, false, false⟩]
def laidList : List (String × DataW Unit) := [("math/bits.deBruijn32tab", Rows.laid_math_bits_deBruijn32tab), ("math/bits.deBruijn64tab", Rows.laid_math_bits_deBruijn64tab), ("internal/strconv.uint64pow10", Rows.laid_internal_strconv_uint64pow10), ("cornice/term.shapes", Rows.laid_cornice_term_shapes), ("strconv.ErrRange", Rows.laid_strconv_ErrRange), ("strconv.ErrSyntax", Rows.laid_strconv_ErrSyntax)]

def numsD (k : IntKind) (l : List Nat) : List (DataW Unit) := l.map fun n => .lit (.int k (Int.ofNat n))
def bindsD (l : List Nat) : DataW Unit := match l with | [] => .nil | l => .slice (numsD .i64 l) []
def shapeD (e : Shp) : DataW Unit := .agg [bindsD e.l, .lit (.bool e.a), .lit (.bool e.b), .lit (.bool e.c)]
theorem shapes_eq : (Rows.laid_cornice_term_shapes : DataW Unit) = .agg (shTab.map shapeD) := by kernel_rfl

theorem mem_row {a : Addr} {n i : Nat} (h : i < n) : MemPlace.cell a.block (a.off + i) ∈ MemPlace.row a n := by
  unfold MemPlace.row
  exact List.mem_map.2 ⟨i, List.mem_range.2 h, rfl⟩

/-- a variable's block -/
theorem var_block {P : Program} {w : World} {n : String} {g : Nat} {cs : Array Value} (hg : P.globalNamed n = some g) (hv : w.var? P n = some cs) (hz : ∃ c t, w.heap[g]? = some (.cells c t (0, 0))) : ∃ t, w.heap[g]? = some (.cells cs t (0, 0)) := by
  obtain ⟨c, t, hc⟩ := hz
  simp only [World.var?, hg, Option.bind_some, hc] at hv
  cases hv
  exact ⟨t, hc⟩

/-- an array of numbers, out of its reading -/
theorem nums_read {P : Program} {w : World} {base : Nat} {spare : Nat → Bool} {held : Bool} {t e : TypeId} {k : IntKind} {n fuel : Nat} {cs : List Value} {l : List Nat} {p : List MemPlace}
    (ht : P.underlying t = some (.array n e)) (he : P.underlying e = some (.int k)) (hc : P.cellsOf e = 1) (hct : P.cellsOf t = n) (hl : l.length = n) (h : DataW.trod (fun _ => ()) P w base spare held fuel t cs = some (.agg (numsD k l), p)) : cs = l.map fun n => .int k (Int.ofNat n) := by
  obtain ⟨xs, m, rfl, hx, hlen, hn, hel⟩ := DataW.trod_array ht h
  rw [hct] at hlen
  simp only [Prod.mk.injEq, DataW.agg.injEq] at hx
  rw [hc] at hel
  apply List.ext_getElem?
  intro i
  by_cases hi : i < n
  · have h1 := hel i hi
    have h2 : (xs.map (·.1))[i]? = (numsD k l)[i]? := by rw [hx.1]
    have hci : i < cs.length := by omega
    have hli : i < l.length := by omega
    have e1 : (List.take 1 (List.drop (i * 1) cs)) = [cs[i]] := by
      rw [Nat.mul_one, List.drop_eq_getElem_cons hci]
      rfl
    rw [e1] at h1
    have hxi : i < xs.length := by omega
    rw [List.getElem?_eq_getElem hxi] at h1
    obtain ⟨z, g1, g2, _⟩ := DataW.trod_int he h1
    simp only [numsD, List.getElem?_map, List.getElem?_eq_getElem hxi, List.getElem?_eq_getElem hli, Option.map_some, Option.some.injEq] at h2
    rw [g2] at h2
    simp only [DataW.lit.injEq, Lit.int.injEq, true_and] at h2
    simp only [List.cons.injEq, and_true] at g1
    rw [List.getElem?_eq_getElem hci, List.getElem?_map, List.getElem?_eq_getElem hli, g1, h2]
    rfl
  · rw [List.getElem?_eq_none (by omega), List.getElem?_eq_none (by simp; omega)]

theorem gShapes : Tryz.prog.globalNamed "cornice/term.shapes" = some 2 := by kernel_rfl
theorem tShapes : (Tryz.prog.globals[2]?).map (·.type) = some 361 := by kernel_rfl
theorem cShape : Tryz.prog.cellsOf 360 = 4 := by kernel_rfl
theorem cInt : Tryz.prog.cellsOf 3 = 1 := by kernel_rfl
theorem cInts : Tryz.prog.cellsOf 66 = 1 := by kernel_rfl
theorem cBool : Tryz.prog.cellsOf 4 = 1 := by kernel_rfl

/-- a shape's binders, where they lie -/
def BindsAt (w : World) (e : Shp) (v : Value) : Prop :=
  (e.l = [] ∧ v = .slice none 0 0) ∨ ∃ b off cc el, e.l ≠ [] ∧ v = .slice (some ⟨b, off, none⟩) e.l.length e.l.length ∧ w.heap[b]? = some (.cells cc el (0, 0)) ∧ ∀ (j : Nat) x, e.l[j]? = some x → cc[off + j]? = some (.int .i64 (Int.ofNat x))
structure ShapesAt (w : World) (c : Array Value) : Prop where
  size : c.size = 120
  each : ∀ (k : Nat) e, shTab[k]? = some e → ∃ v, c[k * 4]? = some v ∧ c[k * 4 + 1]? = some (.bool e.a) ∧ c[k * 4 + 2]? = some (.bool e.b) ∧ c[k * 4 + 3]? = some (.bool e.c) ∧ BindsAt w e v
def numsAt (w : World) (g : Nat) (k : IntKind) (l : List Nat) : Prop := ∃ t, w.heap[g]? = some (.cells (l.map fun n => Value.int k (Int.ofNat n)).toArray t (0, 0))

theorem binds_read {w : World} {fuel : Nat} {v : Value} {l : List Nat} {p : List MemPlace} (h : DataW.trod (fun _ => ()) Tryz.prog w 0 (fun _ => true) false fuel 66 [v] = some (bindsD l, p))
    (hz : ∀ b off, MemPlace.cell b off ∈ p → ∃ c t, w.heap[b]? = some (.cells c t (0, 0))) : (l = [] ∧ v = .slice none 0 0) ∨ ∃ b off cc el, l ≠ [] ∧ v = .slice (some ⟨b, off, none⟩) l.length l.length ∧ w.heap[b]? = some (.cells cc el (0, 0)) ∧ ∀ (j : Nat) x, l[j]? = some x → cc[off + j]? = some (.int .i64 (Int.ofNat x)) := by
  rcases open_ints Tryz.underlying66 Tryz.underlying3 cInt h with ⟨hcs, hx⟩ | ⟨a, len, cap, zs, hcs, _, hl, hm, hz1, hx, hcell, hwz⟩
  · left
    simp at hcs
    simp only [Prod.mk.injEq] at hx
    unfold bindsD at hx
    split at hx
    · exact ⟨rfl, hcs⟩
    · cases hx.1
  · right
    simp at hcs hz1
    simp only [Prod.mk.injEq] at hx
    unfold bindsD at hx
    split at hx
    · cases hx.1
    rename_i hne
    simp only [DataW.slice.injEq] at hx
    obtain ⟨⟨h1, h2⟩, h3⟩ := hx
    have hcap : cap = len := by
      have := congrArg List.length h2
      simp [lits] at this
      omega
    subst hcap
    have hzs : zs.take cap = zs := List.take_of_length_le (by omega)
    rw [hzs] at h1
    have hzl : zs = l.map Int.ofNat := by
      have h4 : zs.map (fun n => (DataW.lit (.int .i64 n) : DataW Unit)) = (l.map Int.ofNat).map fun n => .lit (.int .i64 n) := by
        rw [List.map_map]; exact h1.symm
      exact (List.map_inj_right (fun a b hab => by simpa using hab)).1 h4
    have hll : l.length = cap := by rw [← hz1, hzl]; simp
    have hpos : 0 < zs.length := by
      rw [hz1, ← hll]
      exact List.length_pos_iff.2 hne
    obtain ⟨b, off, rfl, hc'⟩ := ints_at hcell hpos
    obtain ⟨c, t, hc⟩ := hz b off (by rw [h3]; have := mem_row (a := ⟨b, off, none⟩) hpos; simpa using this)
    refine ⟨b, off, c, t, hne, by rw [hcs, hll], hc, fun j x hj => ?_⟩
    have hjl := (List.getElem?_eq_some_iff.1 hj).1
    have := hc' j (by omega)
    simp [World.cell?, hc] at this
    rw [this, hzl]
    simp [hj]

theorem laid_facts {w : World} (h : laidMetH Tryz.prog laidList w) : numsAt w 3 .u8 [0, 1, 28, 2, 29, 14, 24, 3, 30, 22, 20, 15, 25, 17, 4, 8, 31, 27, 13, 23, 21, 19, 16, 7, 26, 12, 18, 6, 11, 5, 10, 9] ∧
    numsAt w 4 .u8 [0, 1, 56, 2, 57, 49, 28, 3, 61, 58, 42, 50, 38, 29, 17, 4, 62, 47, 59, 36, 45, 43, 51, 22, 53, 39, 33, 30, 24, 18, 12, 5, 63, 55, 48, 27, 60, 41, 37, 16, 46, 35, 44, 21, 52, 32, 23, 11, 54, 26, 40, 15, 34, 20, 31, 10, 25, 14, 19, 9, 13, 8, 7, 6] ∧
    numsAt w 1 .u64 [1, 10, 100, 1000, 10000, 100000, 1000000, 10000000, 100000000, 1000000000, 10000000000, 100000000000, 1000000000000, 10000000000000, 100000000000000, 1000000000000000, 10000000000000000, 100000000000000000, 1000000000000000000, 10000000000000000000] ∧
    ∃ c t, w.heap[2]? = some (.cells c t (0, 0)) ∧ ShapesAt w c := by
  unfold laidList at h
  rw [MakeChecks.laidMetH_plain _ _ _ (by kernel_rfl)] at h
  obtain ⟨ps, ⟨g1, t1, cs1, f1, p1, q1, hg1, ht1, hv1, hd1, ⟨g2, t2, cs2, f2, p2, q2, hg2, ht2, hv2, hd2, ⟨g3, t3, cs3, f3, p3, q3, hg3, ht3, hv3, hd3, ⟨g4, t4, cs4, f4, p4, q4, hg4, ht4, hv4, hd4, _, e4⟩, e3⟩, e2⟩, e1⟩, _, hz⟩ := h
  have hz' : ∀ b off, MemPlace.cell b off ∈ ps → ∃ c t, w.heap[b]? = some (.cells c t (0, 0)) := fun b off hb => (hz b off hb).1
  obtain rfl := Option.some.inj ((show Tryz.prog.globalNamed "math/bits.deBruijn32tab" = some 3 by kernel_rfl).symm.trans hg1)
  obtain rfl := Option.some.inj ((show Tryz.prog.globalNamed "math/bits.deBruijn64tab" = some 4 by kernel_rfl).symm.trans hg2)
  obtain rfl := Option.some.inj ((show Tryz.prog.globalNamed "internal/strconv.uint64pow10" = some 1 by kernel_rfl).symm.trans hg3)
  obtain rfl := Option.some.inj (gShapes.symm.trans hg4)
  obtain rfl := Option.some.inj ((show (Tryz.prog.globals[3]?).map (·.type) = some 397 by kernel_rfl).symm.trans ht1)
  obtain rfl := Option.some.inj ((show (Tryz.prog.globals[4]?).map (·.type) = some 398 by kernel_rfl).symm.trans ht2)
  obtain rfl := Option.some.inj ((show (Tryz.prog.globals[1]?).map (·.type) = some 276 by kernel_rfl).symm.trans ht3)
  obtain rfl := Option.some.inj (tShapes.symm.trans ht4)
  subst e1
  subst e2
  subst e3
  subst e4
  have n1 := nums_read (l := [0, 1, 28, 2, 29, 14, 24, 3, 30, 22, 20, 15, 25, 17, 4, 8, 31, 27, 13, 23, 21, 19, 16, 7, 26, 12, 18, 6, 11, 5, 10, 9]) Tryz.underlying397 Tryz.underlying5 (by kernel_rfl) (by kernel_rfl) rfl hd1
  have n2 := nums_read (l := [0, 1, 56, 2, 57, 49, 28, 3, 61, 58, 42, 50, 38, 29, 17, 4, 62, 47, 59, 36, 45, 43, 51, 22, 53, 39, 33, 30, 24, 18, 12, 5, 63, 55, 48, 27, 60, 41, 37, 16, 46, 35, 44, 21, 52, 32, 23, 11, 54, 26, 40, 15, 34, 20, 31, 10, 25, 14, 19, 9, 13, 8, 7, 6]) Tryz.underlying398 Tryz.underlying5 (by kernel_rfl) (by kernel_rfl) rfl hd2
  have n3 := nums_read (l := [1, 10, 100, 1000, 10000, 100000, 1000000, 10000000, 100000000, 1000000000, 10000000000, 100000000000, 1000000000000, 10000000000000, 100000000000000, 1000000000000000, 10000000000000000, 100000000000000000, 1000000000000000000, 10000000000000000000]) Tryz.underlying276 Tryz.underlying219 (by kernel_rfl) (by kernel_rfl) rfl hd3
  have nums : ∀ {g : Nat} {cs : Array Value} {n : String} {k : IntKind} {l : List Nat}, Tryz.prog.globalNamed n = some g → w.var? Tryz.prog n = some cs → cs.toList = l.map (fun n => .int k (Int.ofNat n)) → (∃ c t, w.heap[g]? = some (.cells c t (0, 0))) → numsAt w g k l := fun hg hv hn hzz => by
    obtain ⟨t, ht⟩ := var_block hg hv hzz
    refine ⟨t, ?_⟩
    rw [ht, ← hn]
  have l1 : cs1.size = 32 := by have := congrArg List.length n1; simpa using this
  have l2 : cs2.size = 64 := by have := congrArg List.length n2; simpa using this
  have l3 : cs3.size = 20 := by have := congrArg List.length n3; simpa using this
  have row0 : ∀ {g n : Nat}, 0 < n → MemPlace.cell g 0 ∈ MemPlace.row ⟨g, 0, none⟩ n := fun {g n} h => by have := mem_row (a := ⟨g, 0, none⟩) h; simpa using this
  rw [shapes_eq] at hd4
  obtain ⟨xs, m, rfl, hx, hlen, hn, hel⟩ := DataW.trod_array Tryz.underlying361 hd4
  simp only [Prod.mk.injEq, DataW.agg.injEq] at hx
  obtain ⟨hx1, hx2⟩ := hx
  have l4 : cs4.toList.length = 120 := by rw [hlen]; kernel_rfl
  have l4' : cs4.size = 120 := by simpa using l4
  refine ⟨nums hg1 hv1 n1 (hz' _ 0 (by simp only [List.mem_append]; exact .inl (.inl (row0 (by omega))))), nums hg2 hv2 n2 (hz' _ 0 (by simp only [List.mem_append]; exact .inr (.inl (.inl (row0 (by omega)))))), nums hg3 hv3 n3 (hz' _ 0 (by simp only [List.mem_append]; exact .inr (.inr (.inl (.inl (row0 (by omega))))))), ?_⟩
  obtain ⟨t, ht⟩ := var_block hg4 hv4 (hz' _ 0 (by simp only [List.mem_append]; exact .inr (.inr (.inr (.inl (.inl (row0 (by omega))))))))
  refine ⟨cs4, t, ht, l4', fun k e hke => ?_⟩
  rw [cShape] at hel
  have hk : k < 30 := (List.getElem?_eq_some_iff.1 hke).1
  have hxk : ∃ y, xs[k]? = some y ∧ y.1 = shapeD e := by
    have h1 : (xs.map (·.1))[k]? = some (shapeD e) := by rw [← hx1, List.getElem?_map, hke]; rfl
    rw [List.getElem?_map] at h1
    obtain ⟨y, hy, hy2⟩ := Option.map_eq_some_iff.1 h1
    exact ⟨y, hy, hy2⟩
  obtain ⟨y, hy, hy2⟩ := hxk
  have hek := hel k hk
  rw [hy] at hek
  obtain ⟨zs, n, _, hzz, hzl, hzn, hf⟩ := DataW.trod_struct Tryz.underlying360 hek
  have hyp : ∀ x ∈ y.2, x ∈ p4 := fun x hx' => by rw [hx2]; exact List.mem_flatMap.2 ⟨y, List.mem_of_getElem? hy, hx'⟩
  rw [hzz] at hy2 hyp
  simp only [shapeD, DataW.agg.injEq] at hy2
  match zs, hzn, hy2, hf, hyp with
  | [z0, z1, z2, z3], _, hy2, hf, hyp =>
    simp only [List.map_cons, List.map_nil, List.cons.injEq, and_true] at hy2
    obtain ⟨e0, e1, e2, e3⟩ := hy2
    have f0 : DataW.trod (fun _ => ()) Tryz.prog w 0 (fun _ => true) false n 66 (List.take (Tryz.prog.cellsOf 66) (List.drop 0 (List.take 4 (List.drop (k * 4) cs4.toList)))) = some z0 := hf 0 _ rfl
    have f1 : DataW.trod (fun _ => ()) Tryz.prog w 0 (fun _ => true) false n 4 (List.take (Tryz.prog.cellsOf 4) (List.drop 1 (List.take 4 (List.drop (k * 4) cs4.toList)))) = some z1 := hf 1 _ rfl
    have f2 : DataW.trod (fun _ => ()) Tryz.prog w 0 (fun _ => true) false n 4 (List.take (Tryz.prog.cellsOf 4) (List.drop 2 (List.take 4 (List.drop (k * 4) cs4.toList)))) = some z2 := hf 2 _ rfl
    have f3 : DataW.trod (fun _ => ()) Tryz.prog w 0 (fun _ => true) false n 4 (List.take (Tryz.prog.cellsOf 4) (List.drop 3 (List.take 4 (List.drop (k * 4) cs4.toList)))) = some z3 := hf 3 _ rfl
    rw [cInts] at f0
    rw [cBool] at f1 f2 f3
    have at1 : ∀ i, i < 4 → ∃ v, (List.take 1 (List.drop i (List.take 4 (List.drop (k * 4) cs4.toList)))) = [v] ∧ cs4[k * 4 + i]? = some v := by
      intro i hi
      have h1 : k * 4 + i < cs4.toList.length := by omega
      refine ⟨cs4.toList[k * 4 + i], ?_, by simp⟩
      apply List.ext_getElem?
      intro j
      cases j with
      | zero =>
        rw [List.getElem?_take, if_pos (by omega), List.getElem?_drop, List.getElem?_take, if_pos (by omega), List.getElem?_drop]
        rw [show k * 4 + (i + 0) = k * 4 + i from by omega, List.getElem?_eq_getElem h1]
        rfl
      | succ j =>
        rw [List.getElem?_take, if_neg (by omega)]
        rfl
    obtain ⟨v0, g0, c0⟩ := at1 0 (by omega)
    obtain ⟨v1, g1, c1⟩ := at1 1 (by omega)
    obtain ⟨v2, g2, c2⟩ := at1 2 (by omega)
    obtain ⟨v3, g3, c3⟩ := at1 3 (by omega)
    rw [g0] at f0
    rw [g1] at f1
    rw [g2] at f2
    rw [g3] at f3
    obtain ⟨b1, q1, q1'⟩ := DataW.trod_bool Tryz.underlying4 f1
    obtain ⟨b2, q2, q2'⟩ := DataW.trod_bool Tryz.underlying4 f2
    obtain ⟨b3, q3, q3'⟩ := DataW.trod_bool Tryz.underlying4 f3
    rw [q1'] at e1
    rw [q2'] at e2
    rw [q3'] at e3
    simp only [DataW.lit.injEq, Lit.bool.injEq] at e1 e2 e3
    simp only [List.cons.injEq, and_true] at q1 q2 q3
    obtain ⟨z01, z02⟩ := z0
    simp only at e0
    subst e0
    refine ⟨v0, by simpa using c0, by rw [c1, q1, e1], by rw [c2, q2, e2], by rw [c3, q3, e3], binds_read f0 fun b off hb => hz' b off ?_⟩
    simp only [List.mem_append]
    exact .inr (.inr (.inr (.inl (.inr (hyp _ (by simp; exact .inl hb))))))
end Go.Proofs.YticjebnbcnphkaaGreatDoor
