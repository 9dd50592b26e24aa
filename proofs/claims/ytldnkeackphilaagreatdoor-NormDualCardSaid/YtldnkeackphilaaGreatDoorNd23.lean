/- berthref16.SamePlan's functions: SameList. -/
import Derived.Test.YtldnkeackphilaaGreatDoorNd22
import Derived.Test.YtldnkeackphilaaGreatDoorNd20
import Derived.Test.YtldnkeackphilaaGreatDoorNd11
import Derived.Test.YtldnkeackphilaaGreatDoorRows
import Derived.HandedShaped
import Derived.Shelf.Vars
import Derived.ProofKit
import Derived.OpenShut
import Derived.LaidMore
import Derived.LaidHandle
import Derived.Lay
import Derived.Carry
import Derived.Stop.Joined
import Derived.Test.YtldnkeackphilaaGreatDoorNd18
import Derived.Deep.DeepHandedRow
import Derived.Test.YtldnkeackphilaaGreatDoorKi
import Derived.Test.YtldnkeackphilaaGreatDoorCards
import Derived.Test.YtldnkeackphilaaGreatDoorTie
import Derived.SevenTiedAt
set_option linter.unusedSimpArgs false
set_option linter.unusedVariables false
set_option linter.unusedSectionVars false
namespace Go.Proofs.YtldnkeackphilaaGreatDoor
open Go.RowKit

set_option maxRecDepth 8000

def kidEq (x y : PartD) (i : Nat) : Bool := x.kids.getD i 0 == y.kids.getD i 0
def samePartF (x y : PartD) : Bool := sameLitF x.lit y.lit && x.kind == y.kind && x.neg == y.neg && x.kids.length == y.kids.length && (List.range x.kids.length).all (kidEq x y)
def partEq (a b : List PartD) (i : Nat) : Bool := match a[i]?, b[i]? with
  | some x, some y => samePartF x y
  | _, _ => false
def sameListF (a b : List PartD) : Bool := a.length == b.length && (List.range a.length).all (partEq a b)
namespace X
set_option maxHeartbeats 1000000 in
theorem sameList_h (a b : List PartD) (ha : FitsL a) (hb : FitsL b) : Has Tryz.prog 42 [partsA a, partsA b] (bA (sameListF a b)) noTok := by
  refine fnX mixed ⟨[0, 1, 4, 5, 6, 7, 12, 16, 72, 80, 99], [], [], [], []⟩ Tryz.func42 rfl rfl rfl (by kernel_rfl) rfl ?_
  have hla := ha.len
  simp [partsA]
  refine ⟨fun h => by have : ¬ a.length = b.length := by omega
                      simp [sameListF, this], fun hl => ?_⟩
  have hl' : a.length = b.length := by omega
  refine wF_loop [] [] [0, 1, 4, 5] (fun i : Nat => St.asc [(0, .sl (a.map partCs)), (1, .sl (b.map partCs)), (4, bA false), (5, iA i)] [] [] false) (fun i => i ≤ a.length ∧ Upto (partEq a b) i) (fun i => a.length - i) 0 _ (by simp) (by simp) (by simp [Upto.zero]) ?_
  rintro i ⟨hi, hok⟩
  by_cases h : i < a.length
  · have hx : a[i]? = some a[i] := List.getElem?_eq_getElem h
    have hy : b[i]? = some b[i] := List.getElem?_eq_getElem (by omega)
    have hfx := ha.each a[i] (List.getElem_mem h)
    have hfy := hb.each b[i] (List.getElem_mem (by omega))
    generalize a[i] = x at *
    generalize b[i] = y at *
    have ht : partEq a b i = samePartF x y := by simp [partEq, hx, hy]
    have hib : i < b.length := by omega
    have h1 : IntKind.i64.wrap ((i : Int) + 1) = (i : Int) + 1 := wrap64 (by omega) (by omega)
    have hbad : samePartF x y = false → sameListF a b = false := fun hb => by
      simp [sameListF, all_false (f := partEq a b) h (by rw [ht]; exact hb)]
    simp [hx, hy, h, hib, h1, partCs, strsA, intsA, -getElem?_pos]
    refine callP_of (sameLit_h x.lit y.lit hfx.1 hfy.1) (by simp) (by simp) ?_
    simp [hx, hy, h, hib, h1, partCs, strsA, intsA, -getElem?_pos]
    refine ⟨fun hb => hbad ?_, fun p1 p2 p3 p4 => ?_⟩
    · simp only [samePartF]
      grind
    have p4' : x.kids.length = y.kids.length := by omega
    have hkx := hfx.2
    refine wF_loop [] [] [0, 1, 4, 5, 7] (fun j : Nat => St.asc [(0, .sl (a.map partCs)), (1, .sl (b.map partCs)), (4, bA false), (5, iA i), (7, iA j)] [] [] false) (fun j => j ≤ x.kids.length ∧ Upto (kidEq x y) j) (fun j => x.kids.length - j) 0 _ (by simp) (by simp) (by simp [Upto.zero]) ?_
    rintro j ⟨hj, hjk⟩
    by_cases hjl : j < x.kids.length
    · have hu : x.kids[j]? = some x.kids[j] := List.getElem?_eq_getElem hjl
      obtain ⟨z, hz⟩ := ex_at (l := y.kids) (i := j) (by omega)
      generalize x.kids[j] = u at *
      have hk : kidEq x y j = (u == z) := by simp [kidEq, hu, hz]
      have h2 : IntKind.i64.wrap ((j : Int) + 1) = (j : Int) + 1 := wrap64 (by omega) (by omega)
      have hjy : j < y.kids.length := by omega
      simp [hx, hy, hu, hz, h, hib, hjl, hjy, h2, partCs, strsA, intsA, -getElem?_pos]
      refine ⟨fun hne => hbad ?_, fun he => ⟨j + 1, by simp, ⟨by omega, hjk.next (by rw [hk]; simpa using he)⟩, by omega⟩⟩
      simp [samePartF, all_false (f := kidEq x y) hjl (by rw [hk]; simpa using hne)]
    · have : j = x.kids.length := by omega
      subst this
      have hk : (List.range x.kids.length).all (kidEq x y) = true := hjk
      simp [hx, hy, h, hib, h1, partCs, strsA, intsA, -getElem?_pos]
      exact ⟨i + 1, by simp, ⟨by omega, hok.next (by rw [ht]; simp [samePartF, p1, p2, p3, p4', hk] <;> grind)⟩, by omega⟩
  · have : i = a.length := by omega
    subst this
    have hok' : (List.range a.length).all (partEq a b) = true := hok
    simp
    simp [sameListF, hl', hok'] <;> grind
end X
end Go.Proofs.YtldnkeackphilaaGreatDoor
namespace Go.Proofs.YtldnkeackphilaaGreatDoor
open Go.RowKit

set_option maxRecDepth 8000

def selEq (a b : PlanD) (i : Nat) : Bool := sameListF (a.sels.getD i []) (b.sels.getD i [])
def samePlanF (a b : PlanD) : Bool := sameListF a.main b.main && a.sels.length == b.sels.length && (List.range a.sels.length).all (selEq a b)
namespace X
set_option maxHeartbeats 1000000 in
theorem samePlan_h (a b : PlanD) (ha : FitsP a) (hb : FitsP b) : Has Tryz.prog 17 [.agg (planCs a), .agg (planCs b)] (bA (samePlanF a b)) noTok := by
  refine fnX mixed ⟨[0, 1, 2, 3, 4, 5, 6, 22, 27, 42], [2, 3], [(2, [2]), (3, [3]), (30, [2]), (35, [3])], [], []⟩ Tryz.func17 rfl rfl rfl (by kernel_rfl) rfl ?_
  have hla := ha.len
  simp [planCs, partsA, selsA]
  refine callP_of (sameList_h a.main b.main ha.main hb.main) (by simp) (by simp) ?_
  simp [partsA, selsA]
  refine ⟨fun h => ?_, fun h1 hl => ?_⟩
  · simp only [samePlanF]
    grind
  have hl' : a.sels.length = b.sels.length := by omega
  refine wF_loop [] [.slot 2 2, .slot 3 3] [0, 1, 2, 3, 4, 6] (fun i : Nat => St.asc [(0, .agg (planCs a)), (1, .agg (planCs b)), (2, .ref 2 0), (3, .ref 3 0), (4, bA false), (6, iA i)] [(2, .box 25 (planCs a)), (3, .box 25 (planCs b))] [(2, true), (3, true)] false) (fun i => i ≤ a.sels.length ∧ Upto (selEq a b) i) (fun i => a.sels.length - i) 0 _ (by simp) (by simp [planCs, partsA, selsA]) (by simp [Upto.zero]) ?_
  rintro i ⟨hi, hok⟩
  by_cases h : i < a.sels.length
  · have hx : a.sels[i]? = some a.sels[i] := List.getElem?_eq_getElem h
    have hy : b.sels[i]? = some b.sels[i] := List.getElem?_eq_getElem (by omega)
    have hfx := ha.each a.sels[i] (List.getElem_mem h)
    have hfy := hb.each b.sels[i] (List.getElem_mem (by omega))
    generalize a.sels[i] = x at *
    generalize b.sels[i] = y at *
    have ht : selEq a b i = sameListF x y := by simp [selEq, hx, hy]
    have hib : i < b.sels.length := by omega
    have h2 : IntKind.i64.wrap ((i : Int) + 1) = (i : Int) + 1 := wrap64 (by omega) (by omega)
    simp [planCs, partsA, selsA, hx, hy, h, hib, h2, -getElem?_pos]
    refine callP_of (sameList_h x y hfx hfy) (by simp) (by simp) ?_
    simp [planCs, partsA, selsA, h2, -getElem?_pos]
    refine ⟨fun hne => ?_, fun he => ⟨i + 1, by simp [planCs, partsA, selsA], ⟨by omega, hok.next (by rw [ht]; exact he)⟩, by omega⟩⟩
    have := all_false (f := selEq a b) h (by rw [ht]; exact hne)
    simp only [samePlanF, this, Bool.and_false]
  · have : i = a.sels.length := by omega
    subst this
    have hok' : (List.range a.sels.length).all (selEq a b) = true := hok
    simp [planCs, partsA, selsA, -getElem?_pos]
    simp only [samePlanF, hok', h1, Bool.true_and, Bool.and_true, beq_iff_eq]
    exact hl'
end X
end Go.Proofs.YtldnkeackphilaaGreatDoor
namespace Go.Proofs.YtldnkeackphilaaGreatDoor.X
open Go.RowKit

theorem all_true {n : Nat} {f : Nat → Bool} (h : ∀ i, i < n → f i = true) : (List.range n).all f = true := List.all_eq_true.2 fun i hi => h i (List.mem_range.1 hi)
theorem sameLit_refl (l : LitD) : sameLitF l l = true := by
  unfold sameLitF headF
  rw [all_true fun i _ => by simp [textEq], all_true fun i _ => by simp [numEq]]
  simp [eqT]
theorem sameList_refl (l : List PartD) : sameListF l l = true := by
  unfold sameListF
  rw [all_true fun i h => ?_]
  · simp
  · simp only [partEq, List.getElem?_eq_getElem h, samePartF, sameLit_refl]
    rw [all_true fun i _ => by simp [kidEq]]
    simp
theorem samePlan_refl (p : PlanD) : samePlanF p p = true := by
  unfold samePlanF
  rw [sameList_refl, all_true fun i _ => by simp [selEq, sameList_refl]]
  simp
theorem pb_snoc {ps : List Part} (hb : PB ps) (h : ps.length ≤ 100000) (n : Nat) (hn : n ≤ 100000) : PB (ps ++ [notP n]) := by
  refine ⟨by simp; omega, fun p hp => ?_⟩
  rcases List.mem_append.1 hp with hp | hp
  · exact hb.part p hp
  · rw [List.mem_singleton.1 hp]
    refine ⟨⟨by simp [notP], by simp [notP]⟩, ⟨by simp [notP], by simp [notP]⟩, show noText.size ≤ _ from (by decide), by simp [notP], fun k hk => ?_⟩
    simp only [notP, List.mem_singleton] at hk
    subst hk
    exact ⟨by omega, by omega⟩
theorem dual_fitsL {l : List PartD} (h : FitsL l) : FitsL (dualL l) := by
  refine ⟨by have := h.len; simpa [dualL] using this, fun p hp => ?_⟩
  obtain ⟨q, hq, rfl⟩ := List.mem_map.1 hp
  exact h.each q hq
theorem shape_kids {ps : List Part} (hs : shapeF ps = none) : ∀ (i : Nat) p, ps[i]? = some p → p.kids.length ≤ 1000 := by
  have hw := wf_of_shape hs
  have hk := hw.kids
  unfold shapeF at hs
  split at hs
  · cases hs
  split at hs
  · cases hs
  split at hs
  · cases hs
  next f hf =>
  obtain ⟨h1, h2⟩ := shapeGo_sz ps ps.length (Nat.le_refl _) hk ps 0 [] f rfl (by omega) hf rfl (by simp)
  intro i p hp
  have := h2 i p hp
  have := (List.getElem?_eq_some_iff.1 hp).1
  have := hw.le
  omega
theorem shapeGo_sum (ps : List Part) : ∀ (l : List Part) (i : Nat) (free f : List Int), shapeGo ps l i free = .inr f → f.length + (l.map (·.kids.length)).sum = free.length + l.length
  | [], i, free, f, h => by
    simp only [shapeGo, Sum.inr.injEq] at h
    subst h
    rfl
  | p :: r, i, free, f, h => by
    rw [shapeGo] at h
    split at h
    · next hok =>
      simp only [partOk, Bool.and_eq_true, decide_eq_true_eq] at hok
      have := shapeGo_sum ps r (i + 1) _ f h
      simp only [List.map_cons, List.sum_cons, List.length_cons, List.length_append, List.length_take, List.length_nil] at this ⊢
      omega
    · cases h
theorem largeGo_le : ∀ (l : List Part) (n : Nat), largeGo l n ≤ n + (l.map (·.kids.length)).sum
  | [], n => by simp [largeGo]
  | p :: l, n => by
    rw [largeGo]
    split
    · have := largeGo_le l (n + p.kids.length)
      simp only [List.map_cons, List.sum_cons]
      omega
    · omega
theorem kids_sum {ps : List Part} (hv : validF ps = none) : (ps.map (·.kids.length)).sum ≤ ps.length := by
  have hs := shape_of_valid hv
  unfold shapeF at hs
  split at hs
  · cases hs
  split at hs
  · cases hs
  split at hs
  · cases hs
  next f hf =>
  have := shapeGo_sum ps ps 0 [] f hf
  simp only [List.length_nil] at this
  omega
theorem large_no {ps : List Part} (hv : validF ps = none) : largeF ps = false := by
  have h1 := kids_sum hv
  have h2 := largeGo_le ps ps.length
  have h3 := (wf_of_shape (shape_of_valid hv)).le
  simp only [largeF, decide_eq_false_iff_not]
  omega
theorem large_not {ps : List Part} (hv : validF ps = none) (n : Nat) : largeF (ps ++ [notP n]) = false := by
  have h1 := kids_sum hv
  have h2 := largeGo_le (ps ++ [notP n]) (ps ++ [notP n]).length
  have h3 := (wf_of_shape (shape_of_valid hv)).le
  simp only [List.map_append, List.map_cons, List.map_nil, List.sum_append, List.sum_cons, List.sum_nil, List.length_append, List.length_cons, List.length_nil, notP] at h2
  simp only [largeF, decide_eq_false_iff_not, List.length_append, List.length_cons, List.length_nil]
  unfold notP
  omega
set_option linter.unusedSimpArgs false
set_option maxRecDepth 8000
set_option maxHeartbeats 2000000
theorem dual_bad (ps : List Part) (scope : Int) (hsc : R64 scope) (hb : PB ps) (h0 : codeF ps scope ≠ 0) : Has Tryz.prog 7 [.agg [psA ps], iA scope] (bA true) noTok := by
  refine fnX mixed ⟨[0, 1, 2, 4, 5, 6, 7, 8, 9, 11, 12, 14, 24, 66, 84, 97], [2, 5, 7, 37, 39, 40, 8, 49, 51, 52, 11, 30, 43], [(5, [5]), (11, [11]), (76, [5]), (79, [5])], [(8, [40]), (16, [52])], []⟩ Tryz.func7 rfl rfl rfl (by kernel_rfl) rfl ?_
  have h1 := copy_x ps hb
  have h2 := plan_h ps scope hsc hb
  rw [codes.1 h0] at h2
  simp only [psA, partsA, selsA, List.map_nil] at h1 h2
  generalize codeF ps scope = e at *
  simp [psA]
  refine callP_of awake_h (by simp) (by simp) ?_
  simp
  refine callP_of h1 (by simp) (by simp) ?_
  simp
  refine callP_of h2 (by simp) (by simp) ?_
  simp
  refine callP_of (num_h e) (by simp) (by simp) ?_
  simp [h0]
theorem dual_1 (ps : List Part) (scope : Int) (hsc : R64 scope) (hb : PB ps) (ts : List (Int × Int)) (hts : checkF ps scope = .inr ts) (c pl : Int) (hv : validF (ps ++ [notP ps.length]) = some (c, pl)) : Has Tryz.prog 7 [.agg [psA ps], iA scope] (bA true) noTok := by
  refine fnX mixed ⟨[0, 1, 2, 4, 5, 6, 7, 8, 9, 11, 12, 14, 24, 66, 84, 97], [2, 5, 7, 37, 39, 40, 8, 49, 51, 52, 11, 30, 43], [(5, [5]), (11, [11]), (76, [5]), (79, [5])], [(8, [40]), (16, [52])], []⟩ Tryz.func7 rfl rfl rfl (by kernel_rfl) rfl ?_
  have ht := typed_of hts
  have hw := wf_of_shape (shape_of_valid ht.valid)
  have hle := hw.le
  have hpos := hw.pos
  have hb1 := pb_snoc hb (by omega) ps.length (by omega)
  have h1 := copy_x ps hb
  have h2 := plan_good ps scope hsc hb ts hts
  have h3 := copy_own ps hb hpos (large_no ht.valid)
  have h4 := copy_own _ hb1 (by simp) (large_not ht.valid _)
  have h5 := valid13 _ (fun p hp => (hb1.part p hp).2.2.2.1) (by simp; omega) shape_kids _ (Lib.hid rfl)
  have h6 := plan_h _ scope hsc hb1
  have eN : pCs (notP ps.length) = [iA 3, sA noText, iA 0, .sl [[iA ((ps.length : Int) - 1)]]] := rfl
  have eN1 : pCs (notP (ps.length + 1)) = [iA 3, sA noText, iA 0, .sl [[iA (ps.length : Int)]]] := by simp [pCs, notP, intsA]
  have t0 : List.take ps.length (ps.map pCs) = ps.map pCs := List.take_of_length_le (by simp)
  have t1 : ∀ x : List AV, List.take (ps.length + 1) (ps.map pCs ++ [x]) = ps.map pCs ++ [x] := fun x => List.take_of_length_le (by simp)
  have t2 : ∀ x y : List AV, List.take (ps.length + 1 + 1) (ps.map pCs ++ [x, y]) = ps.map pCs ++ [x, y] := fun x y => List.take_of_length_le (by simp)
  have w1 : IntKind.i64.wrap ((ps.length : Int) - 1) = (ps.length : Int) - 1 := wrap64 (by omega) (by omega)
  have h0 := valid_code hv
  have hc : codeF (ps ++ [notP ps.length]) scope = c := by simp [codeF, hv]
  have hvv : valid13F (ps ++ [notP ps.length]) = (c, pl) := by simp [valid13F, hv]
  rw [hvv] at h5
  rw [codes.1 (by rw [hc]; exact h0), hc] at h6
  generalize planF ps = q at *
  obtain ⟨main, sels⟩ := q
  simp only [psA, partsA, selsA, List.map_nil, List.map_append, List.map_cons, eN, eN1, List.length_append, List.length_cons, List.length_nil, Nat.zero_add, List.append_assoc, List.cons_append, List.nil_append] at h1 h2 h3 h4 h5 h6
  simp [psA]
  refine callP_of awake_h (by simp) (by simp) ?_
  simp
  refine callP_of h1 (by simp) (by simp) ?_
  simp
  refine callP_of h2 (by simp) (by simp) ?_
  simp
  refine callP_of (num_h 0) (by simp) (by simp) ?_
  simp
  refine callH_of [] [(2000, 30)] h3 (by simp) (by simp) (by simp) ?_
  simp [w1]
  refine ⟨⟨by omega, by omega⟩, callH_of [] [(2000, 43)] h4 (by simp [t0, t1, noText]) (by simp) (by simp) ?_⟩
  simp [w1, t0, t1, t2]
  refine ⟨⟨by omega, by omega⟩, callP_of h5 (by simp) (by simp) ?_⟩
  simp [w1, t0, t1, t2]
  refine callP_of h6 (by simp) (by simp) ?_
  simp [w1, t0, t1, t2, h0]
  refine callP_of (num_h c) (by simp) (by simp) ?_
  simp
theorem dual_2 (ps : List Part) (scope : Int) (hsc : R64 scope) (hb : PB ps) (ts : List (Int × Int)) (hts : checkF ps scope = .inr ts) (hv : validF (ps ++ [notP ps.length]) = none) (c pl : Int) (hv2 : validF (ps ++ [notP ps.length] ++ [notP (ps.length + 1)]) = some (c, pl)) : Has Tryz.prog 7 [.agg [psA ps], iA scope] (bA true) noTok := by
  refine fnX mixed ⟨[0, 1, 2, 4, 5, 6, 7, 8, 9, 11, 12, 14, 24, 66, 84, 97], [2, 5, 7, 37, 39, 40, 8, 49, 51, 52, 11, 30, 43], [(5, [5]), (11, [11]), (76, [5]), (79, [5])], [(8, [40]), (16, [52])], []⟩ Tryz.func7 rfl rfl rfl (by kernel_rfl) rfl ?_
  have ht := typed_of hts
  have hw := wf_of_shape (shape_of_valid ht.valid)
  have hle := hw.le
  have hpos := hw.pos
  have hb1 := pb_snoc hb (by omega) ps.length (by omega)
  have h1 := copy_x ps hb
  have h2 := plan_good ps scope hsc hb ts hts
  have h3 := copy_own ps hb hpos (large_no ht.valid)
  have h4 := copy_own _ hb1 (by simp) (large_not ht.valid _)
  have h5 := valid13 _ (fun p hp => (hb1.part p hp).2.2.2.1) (by simp; omega) shape_kids _ (Lib.hid rfl)
  have h6 := plan_h _ scope hsc hb1
  have eN : pCs (notP ps.length) = [iA 3, sA noText, iA 0, .sl [[iA ((ps.length : Int) - 1)]]] := rfl
  have eN1 : pCs (notP (ps.length + 1)) = [iA 3, sA noText, iA 0, .sl [[iA (ps.length : Int)]]] := by simp [pCs, notP, intsA]
  have t0 : List.take ps.length (ps.map pCs) = ps.map pCs := List.take_of_length_le (by simp)
  have t1 : ∀ x : List AV, List.take (ps.length + 1) (ps.map pCs ++ [x]) = ps.map pCs ++ [x] := fun x => List.take_of_length_le (by simp)
  have t2 : ∀ x y : List AV, List.take (ps.length + 1 + 1) (ps.map pCs ++ [x, y]) = ps.map pCs ++ [x, y] := fun x y => List.take_of_length_le (by simp)
  have w1 : IntKind.i64.wrap ((ps.length : Int) - 1) = (ps.length : Int) - 1 := wrap64 (by omega) (by omega)
  obtain ⟨ts1, hts1⟩ := check_not hts hv
  have hw1 := wf_of_shape (shape_of_valid hv)
  have hb2 := pb_snoc hb1 (by simp; omega) (ps.length + 1) (by omega)
  have h7 := valid13 _ (fun p hp => (hb2.part p hp).2.2.2.1) (by simp; omega) shape_kids _ (Lib.hid rfl)
  have h8 := plan_h _ scope hsc hb2
  have hc : codeF (ps ++ [notP ps.length]) scope = 0 := by simp [codeF, hv, hts1]
  have hvv : valid13F (ps ++ [notP ps.length]) = (0, 0) := by simp [valid13F, hv]
  have hfit := (plan_small hts).2.2.2.2.2
  rw [hvv] at h5
  rw [(codes.2 hc).choose_spec.2, hc, plan_not hw] at h6
  have h0 := valid_code hv2
  have hc2 : codeF (ps ++ [notP ps.length] ++ [notP (ps.length + 1)]) scope = c := by simp only [codeF, hv2]
  have hvv2 : valid13F (ps ++ [notP ps.length] ++ [notP (ps.length + 1)]) = (c, pl) := by simp only [valid13F, hv2]
  rw [hvv2] at h7
  rw [codes.1 (by rw [hc2]; exact h0), hc2] at h8
  have hlen := (plan_small hts).1
  generalize planF ps = q at *
  obtain ⟨main, sels⟩ := q
  have hfd : FitsP ⟨dualL main, sels⟩ := ⟨dual_fitsL hfit.main, hfit.len, hfit.each⟩
  have hS := samePlan_h ⟨dualL main, sels⟩ ⟨dualL main, sels⟩ hfd hfd
  rw [samePlan_refl] at hS
  have hD := dual_h main (by have := wtL_sum main; have h9 : wtL main + (sels.map wtL).sum ≤ ps.length := hlen; omega) _ (Lib.hid rfl)
  simp only [planCs] at hS
  simp only [psA, partsA, selsA, List.map_nil, List.map_append, List.map_cons, eN, eN1, List.length_append, List.length_cons, List.length_nil, Nat.zero_add, List.append_assoc, List.cons_append, List.nil_append] at h1 h2 h3 h4 h5 h6 h7 h8 hS hD
  simp [psA]
  refine callP_of awake_h (by simp) (by simp) ?_
  simp
  refine callP_of h1 (by simp) (by simp) ?_
  simp
  refine callP_of h2 (by simp) (by simp) ?_
  simp
  refine callP_of (num_h 0) (by simp) (by simp) ?_
  simp
  refine callH_of [] [(2000, 30)] h3 (by simp) (by simp) (by simp) ?_
  simp [w1]
  refine ⟨⟨by omega, by omega⟩, callH_of [] [(2000, 43)] h4 (by simp [t0, t1, noText]) (by simp) (by simp) ?_⟩
  simp [w1, t0, t1, t2]
  refine ⟨⟨by omega, by omega⟩, callP_of h5 (by simp) (by simp) ?_⟩
  simp [w1, t0, t1, t2]
  refine callP_of h6 (by simp) (by simp) ?_
  simp [w1, t0, t1, t2]
  refine callP_of (num_h 0) (by simp) (by simp) ?_
  simp [w1, t0, t1, t2]
  refine callG_of (fun _ => hD) (by simp) (by simp) ?_
  simp [w1, t0, t1, t2]
  refine callG_of (fun _ => hS) (by simp) (by simp) ?_
  simp [w1, t0, t1, t2]
  refine callP_of h7 (by simp) (by simp) ?_
  simp [w1, t0, t1, t2]
  refine callP_of h8 (by simp) (by simp) ?_
  simp [w1, t0, t1, t2, h0]
  refine callP_of (num_h c) (by simp) (by simp) ?_
  simp
theorem dual_3 (ps : List Part) (scope : Int) (hsc : R64 scope) (hb : PB ps) (ts : List (Int × Int)) (hts : checkF ps scope = .inr ts) (hv : validF (ps ++ [notP ps.length]) = none) (hv2 : validF (ps ++ [notP ps.length] ++ [notP (ps.length + 1)]) = none) : Has Tryz.prog 7 [.agg [psA ps], iA scope] (bA true) noTok := by
  refine fnX mixed ⟨[0, 1, 2, 4, 5, 6, 7, 8, 9, 11, 12, 14, 24, 66, 84, 97], [2, 5, 7, 37, 39, 40, 8, 49, 51, 52, 11, 30, 43], [(5, [5]), (11, [11]), (76, [5]), (79, [5])], [(8, [40]), (16, [52])], []⟩ Tryz.func7 rfl rfl rfl (by kernel_rfl) rfl ?_
  have ht := typed_of hts
  have hw := wf_of_shape (shape_of_valid ht.valid)
  have hle := hw.le
  have hpos := hw.pos
  have hb1 := pb_snoc hb (by omega) ps.length (by omega)
  have h1 := copy_x ps hb
  have h2 := plan_good ps scope hsc hb ts hts
  have h3 := copy_own ps hb hpos (large_no ht.valid)
  have h4 := copy_own _ hb1 (by simp) (large_not ht.valid _)
  have h5 := valid13 _ (fun p hp => (hb1.part p hp).2.2.2.1) (by simp; omega) shape_kids _ (Lib.hid rfl)
  have h6 := plan_h _ scope hsc hb1
  have eN : pCs (notP ps.length) = [iA 3, sA noText, iA 0, .sl [[iA ((ps.length : Int) - 1)]]] := rfl
  have eN1 : pCs (notP (ps.length + 1)) = [iA 3, sA noText, iA 0, .sl [[iA (ps.length : Int)]]] := by simp [pCs, notP, intsA]
  have t0 : List.take ps.length (ps.map pCs) = ps.map pCs := List.take_of_length_le (by simp)
  have t1 : ∀ x : List AV, List.take (ps.length + 1) (ps.map pCs ++ [x]) = ps.map pCs ++ [x] := fun x => List.take_of_length_le (by simp)
  have t2 : ∀ x y : List AV, List.take (ps.length + 1 + 1) (ps.map pCs ++ [x, y]) = ps.map pCs ++ [x, y] := fun x y => List.take_of_length_le (by simp)
  have w1 : IntKind.i64.wrap ((ps.length : Int) - 1) = (ps.length : Int) - 1 := wrap64 (by omega) (by omega)
  obtain ⟨ts1, hts1⟩ := check_not hts hv
  have hw1 := wf_of_shape (shape_of_valid hv)
  have hb2 := pb_snoc hb1 (by simp; omega) (ps.length + 1) (by omega)
  have h7 := valid13 _ (fun p hp => (hb2.part p hp).2.2.2.1) (by simp; omega) shape_kids _ (Lib.hid rfl)
  have h8 := plan_h _ scope hsc hb2
  have hc : codeF (ps ++ [notP ps.length]) scope = 0 := by simp [codeF, hv, hts1]
  have hvv : valid13F (ps ++ [notP ps.length]) = (0, 0) := by simp [valid13F, hv]
  have hfit := (plan_small hts).2.2.2.2.2
  rw [hvv] at h5
  rw [(codes.2 hc).choose_spec.2, hc, plan_not hw] at h6
  have hl1 : (ps ++ [notP ps.length]).length = ps.length + 1 := by simp
  obtain ⟨ts2, hts2⟩ := check_not hts1 (by rw [hl1]; exact hv2)
  rw [hl1] at hts2
  have hc2 : codeF (ps ++ [notP ps.length] ++ [notP (ps.length + 1)]) scope = 0 := by simp only [codeF, hv2, hts2]
  have hvv2 : valid13F (ps ++ [notP ps.length] ++ [notP (ps.length + 1)]) = (0, 0) := by simp only [valid13F, hv2]
  rw [hvv2] at h7
  rw [(codes.2 hc2).choose_spec.2, hc2, plan_twice hw hw1] at h8
  have hlen := (plan_small hts).1
  generalize planF ps = q at *
  obtain ⟨main, sels⟩ := q
  have hfd : FitsP ⟨dualL main, sels⟩ := ⟨dual_fitsL hfit.main, hfit.len, hfit.each⟩
  have hS := samePlan_h ⟨dualL main, sels⟩ ⟨dualL main, sels⟩ hfd hfd
  rw [samePlan_refl] at hS
  have hS2 := samePlan_h ⟨main, sels⟩ ⟨main, sels⟩ hfit hfit
  rw [samePlan_refl] at hS2
  have hD := dual_h main (by have := wtL_sum main; have h9 : wtL main + (sels.map wtL).sum ≤ ps.length := hlen; omega) _ (Lib.hid rfl)
  simp only [planCs] at hS hS2
  simp only [psA, partsA, selsA, List.map_nil, List.map_append, List.map_cons, eN, eN1, List.length_append, List.length_cons, List.length_nil, Nat.zero_add, List.append_assoc, List.cons_append, List.nil_append] at h1 h2 h3 h4 h5 h6 h7 h8 hS hD hS2
  simp [psA]
  refine callP_of awake_h (by simp) (by simp) ?_
  simp
  refine callP_of h1 (by simp) (by simp) ?_
  simp
  refine callP_of h2 (by simp) (by simp) ?_
  simp
  refine callP_of (num_h 0) (by simp) (by simp) ?_
  simp
  refine callH_of [] [(2000, 30)] h3 (by simp) (by simp) (by simp) ?_
  simp [w1]
  refine ⟨⟨by omega, by omega⟩, callH_of [] [(2000, 43)] h4 (by simp [t0, t1, noText]) (by simp) (by simp) ?_⟩
  simp [w1, t0, t1, t2]
  refine ⟨⟨by omega, by omega⟩, callP_of h5 (by simp) (by simp) ?_⟩
  simp [w1, t0, t1, t2]
  refine callP_of h6 (by simp) (by simp) ?_
  simp [w1, t0, t1, t2]
  refine callP_of (num_h 0) (by simp) (by simp) ?_
  simp [w1, t0, t1, t2]
  refine callG_of (fun _ => hD) (by simp) (by simp) ?_
  simp [w1, t0, t1, t2]
  refine callG_of (fun _ => hS) (by simp) (by simp) ?_
  simp [w1, t0, t1, t2]
  refine callP_of h7 (by simp) (by simp) ?_
  simp [w1, t0, t1, t2]
  refine callP_of h8 (by simp) (by simp) ?_
  simp [w1, t0, t1, t2]
  refine callP_of (num_h 0) (by simp) (by simp) ?_
  simp [w1, t0, t1, t2]
  refine .inl (callG_of (fun _ => hS2) (by simp) (by simp) ?_)
  simp
theorem normDual_h (ps : List Part) (scope : Int) (hsc : R64 scope) (hb : PB ps) : Has Tryz.prog 7 [.agg [psA ps], iA scope] (bA true) noTok := by
  by_cases h0 : codeF ps scope = 0
  · obtain ⟨ts, hts, -⟩ := codes.2 h0
    rcases hv : validF (ps ++ [notP ps.length]) with _ | ⟨c, pl⟩
    · rcases hv2 : validF (ps ++ [notP ps.length] ++ [notP (ps.length + 1)]) with _ | ⟨c, pl⟩
      · exact dual_3 ps scope hsc hb ts hts hv hv2
      · exact dual_2 ps scope hsc hb ts hts hv c pl hv2
    · exact dual_1 ps scope hsc hb ts hts c pl hv
  · exact dual_bad ps scope hsc hb h0
end Go.Proofs.YtldnkeackphilaaGreatDoor.X
namespace Go.Proofs.YtldnkeackphilaaGreatDoor
open Go.RowKit

theorem map_of {α : Type} {f : α → List AV} {Q : α → Prop} : ∀ {es : List (List AV)}, (∀ x ∈ es, ∃ y, x = f y ∧ Q y) → ∃ L : List α, es = L.map f ∧ ∀ y ∈ L, Q y
  | [], _ => ⟨[], rfl, fun y hy => by simp at hy⟩
  | x :: es, h => by
    obtain ⟨y, rfl, hy⟩ := h x (by simp)
    obtain ⟨L, rfl, hL⟩ := map_of (es := es) fun z hz => h z (by simp [hz])
    exact ⟨y :: L, rfl, fun z hz => by rcases List.mem_cons.1 hz with rfl | hz; exact hy; exact hL z hz⟩
theorem len_of {n k m : Nat} (h : n * k ≤ reachBytes) (hk : 140737488351232 ≤ m * k) (h0 : 0 < k) : n ≤ m := by
  refine Nat.le_of_mul_le_mul_right (Nat.le_trans h ?_) h0
  simpa [reachBytes] using hk
theorem ints_of' {l : List AV} (h : (PT.sl .nu 8).Of l) : ∃ L : List Int, l = [intsA L] ∧ L.length ≤ 17592186043904 ∧ ∀ k ∈ L, -9223372036854775808 ≤ k ∧ k ≤ 9223372036854775807 := by
  obtain ⟨es, rfl, hl, he⟩ := h
  obtain ⟨L, rfl, hL⟩ := map_of (f := fun n : Int => [iA n]) (Q := fun k => -9223372036854775808 ≤ k ∧ k ≤ 9223372036854775807) fun x hx => he x hx
  exact ⟨L, rfl, len_of (k := 8) (by simpa using hl) (by omega) (by omega), hL⟩
end Go.Proofs.YtldnkeackphilaaGreatDoor
namespace Go.Proofs.YtldnkeackphilaaGreatDoor
open Go.ChangeShapes Go.WideShapes Go.RowKit

theorem Tryz.ownNone : ownKnob Tryz.prog.godebug = none := by kernel_rfl
theorem Tryz.etNamed : Tryz.prog.globalNamed "errors.errorType" = some 0 := by kernel_rfl
theorem Tryz.rtCut : (Tryz.prog.cutTypes.find? (·.1 == "internal/reflectlite.rtype")).map (·.2) = some 240 := by kernel_rfl
theorem Tryz.typesSize : Tryz.prog.types.size = 426 := by kernel_rfl
theorem Tryz.oneRow : ((List.range 426).filter fun t => Tryz.prog.rowNamed t [101, 114, 114, 111, 114]) = [44] := by kernel_rfl
def laidN : List (String × DataW Unit) := [("unicode/utf8.acceptRanges", Rows.laid_unicode_utf8_acceptRanges), ("errors.errorType", Rows.laid_errors_errorType), ("unicode/utf8.first", Rows.laid_unicode_utf8_first)]
def laidP : List (String × DataW Unit) := [("unicode/utf8.acceptRanges", Rows.laid_unicode_utf8_acceptRanges), ("unicode/utf8.first", Rows.laid_unicode_utf8_first)]
theorem handle_of_laid {W : World} (h : laidMetH Tryz.prog laidN W) : W.cell? ⟨0, 0, none⟩ = some (.iface 240 (.agg #[.pointer (some ⟨4, 44, none⟩)])) := by
  have h' : laidMet Tryz.prog laidP W ∧ handlesMet Tryz.prog [("errors.errorType", Rows.laid_errors_errorType)] W := h
  obtain ⟨name, u, ty, e1, e2, e3, e4, e5⟩ := h'.2 _ (List.mem_singleton.2 rfl)
  have en : name = [101, 114, 114, 111, 114] := (Option.some.inj e1).symm
  subst en
  obtain rfl := Option.some.inj (Tryz.rtCut.symm.trans e2)
  have hm : ty ∈ (List.range 426).filter fun t => Tryz.prog.rowNamed t [101, 114, 114, 111, 114] := List.mem_filter.2 ⟨List.mem_range.2 (by rw [← Tryz.typesSize]; exact e3), e4⟩
  rw [Tryz.oneRow] at hm
  obtain rfl := List.mem_singleton.1 hm
  have hh : typeHandle Tryz.prog 44 = .pointer (some ⟨4, 44, none⟩) := by kernel_rfl
  rw [hh] at e5
  simpa using World.var?_cell Tryz.etNamed e5 0
theorem max_of_shaped {W : World} (h : W.ShapedOpen Tryz.prog) : ∃ m, W.cell? ⟨1, 0, none⟩ = some (.int .i64 m) :=
  cell_of_shapedOpen_int (zero := #[.int .i64 0]) (t := 3) h (of_decide_eq_true (by kernel_rfl)) (by kernel_rfl) rfl (by kernel_rfl) (by kernel_rfl) (by kernel_rfl)
noncomputable def witW (os : Os) : World :=
  let w0 := World.holding Tryz.prog os ⟨#[], #[], []⟩
  ({ w0 with heap := w0.heap.modify 0 fun
      | .cells _ t frozen => .cells #[.iface 240 (.agg #[.pointer (some ⟨4, 44, none⟩)])] t frozen
      | o => o } : World).layVars Tryz.prog laidP
set_option maxRecDepth 100000 in
theorem witW_os (os : Os) : (witW os).os = os := World.layVars_os _ _ _
set_option maxRecDepth 100000 in
theorem witW_met (os : Os) (args : Array Value) : laidMetH Tryz.prog laidN ((witW os).forCall (fun _ _ => 0) ⟨#[], args, []⟩).memory := by
  have h : laidMetH Tryz.prog laidN (witW os) := laidMetH_of_parts (laidMet_layVars (P := Tryz.prog) (w0 := _) (w' := witW os) (laid := laidP) ["unicode/utf8.acceptRanges", "unicode/utf8.first"] [] rfl (by kernel_rfl) (by kernel_rfl) LaidIn.none) (by kernel_rfl)
  exact h.of_heap (by simp [World.memory, World.forCall, Input.heap])

def PT.Arg : PT → AV → Prop
  | .st r, .agg l => r.Of l
  | .st _, _ => False
  | s, a => s.Of [a]
section
variable {H : Type} {enc : TypeId × Value → H} {P : Program} {W W' : World} {base : Nat}
theorem arg_one {s : PT} {v : Value} {l : List AV} (hs : s.sz = 1) (hc : v.cells.toList = [v]) (h1 : s.Of l) (h2 : ReadsTo W v.cells.toList l) : ∃ a, s.Of [a] ∧ RD W v a := by
  have hl := h1.len
  rw [hs] at hl
  obtain ⟨a, rfl⟩ := List.length_eq_one_iff.1 hl
  rw [hc] at h2
  exact ⟨a, h1, (h2 0 v a rfl rfl).2⟩
theorem arg_read {s : PT} {t : TypeId} {v : Value} {d : DataW H} {p : List MemPlace} (ho : s.ok P (.inl t) = true) (hv : Value.okWide P W .any base t v) (ht : DataW.Trod enc P W 0 (fun _ => true) true t v d p) (hw : ∀ n ∈ d.weights P t, n ≤ reachBytes) : ∃ a, s.Arg a ∧ RD W v a := by
  obtain ⟨fuel, ht⟩ := ht
  obtain ⟨hl, l, h1, h2⟩ := (read_all s).1 t fuel _ d p ho ht hw
  cases s with
  | bo =>
    simp only [PT.ok] at ho
    split at ho
    case h_2 => cases ho
    next hu =>
    refine arg_one rfl ?_ h1 h2
    cases v <;> simp [Value.okWide, hu, Cell.okWide, Cell.ok] at hv <;> rfl
  | nu =>
    simp only [PT.ok] at ho
    split at ho
    case h_2 => cases ho
    next hu =>
    refine arg_one rfl ?_ h1 h2
    cases v <;> simp [Value.okWide, hu, Cell.okWide, Cell.ok] at hv <;> rfl
  | tx =>
    simp only [PT.ok] at ho
    split at ho
    case h_2 => cases ho
    next hu =>
    refine arg_one rfl ?_ h1 h2
    cases v <;> simp [Value.okWide, hu, Cell.okWide, Cell.ok] at hv <;> rfl
  | sl e m =>
    simp only [PT.ok] at ho
    split at ho
    case h_2 => cases ho
    next u hu =>
    refine arg_one rfl ?_ h1 h2
    cases v <;> simp [Value.okWide, hu, Cell.okWide, Cell.ok] at hv <;> rfl
  | st r =>
    simp only [PT.ok] at ho
    split at ho
    case h_2 => cases ho
    next fs hu =>
    simp only [Value.okWide, hu] at hv
    obtain ⟨cs, rfl, hsz, -⟩ := hv
    have hlen : cs.size = l.length := by rw [h1.len]; simpa [Value.cells] using hl
    refine ⟨.agg l, h1, .agg _ _ hlen (fun j v hj => ?_) fun j v a hj ha => ?_⟩
    · have hjl : j < l.length := by rw [← hlen]; exact (Array.getElem?_eq_some_iff.1 hj).1
      exact (h2 j v l[j] (by simpa [Value.cells] using hj) (List.getElem?_eq_getElem hjl)).1
    · exact (h2 j v a (by simpa [Value.cells] using hj) ha).2
  | unit => simp [PT.ok] at ho
  | pair a r => simp [PT.ok] at ho
def oks (P : Program) : List PT → List TypeId → Bool
  | [], [] => true
  | s :: ss, t :: ts => s.ok P (.inl t) && oks P ss ts
  | _, _ => false
def Args : List PT → List AV → Prop
  | [], [] => True
  | s :: ss, a :: l => s.Arg a ∧ Args ss l
  | _, _ => False
theorem args_read : ∀ {ss : List PT} {ts : List TypeId} {vs : List Value} {ds : List (DataW H)} {ps : List MemPlace}, oks P ss ts = true → DataW.TrodAll enc P W 0 (fun _ => true) true ts vs ds ps →
    (∀ (j : Nat) t v, ts[j]? = some t → vs[j]? = some v → Value.okWide P W .any base t v) → (∀ n ∈ DataW.weightsEach P ts ds, n ≤ reachBytes) →
    ∃ l, Args ss l ∧ vs.length = l.length ∧ ∀ (i : Nat) v b, vs[i]? = some v → l[i]? = some b → RD W v b
  | [], [], [], [], ps, _, _, _, _ => ⟨[], trivial, rfl, fun i v b h => by simp at h⟩
  | s :: ss, t :: ts, v :: vs, d :: ds, ps, ho, ht, hv, hw => by
    simp only [oks, Bool.and_eq_true] at ho
    obtain ⟨p, q, h1, h2, -⟩ := ht
    simp only [DataW.weightsEach, List.mem_append] at hw
    obtain ⟨a, k1, k2⟩ := arg_read ho.1 (hv 0 t v rfl rfl) h1 fun n hn => hw n (.inl hn)
    obtain ⟨l, k3, k4, k5⟩ := args_read ho.2 h2 (fun j t v h h' => hv (j + 1) t v (by simpa using h) (by simpa using h')) fun n hn => hw n (.inr hn)
    refine ⟨a :: l, ⟨k1, k3⟩, by simp [k4], fun i v b h h' => ?_⟩
    match i with
    | 0 => cases h; cases h'; exact k2
    | i + 1 => exact k5 i v b (by simpa using h) (by simpa using h')
  | [], _ :: _, _, _, _, ho, _, _, _ => by simp [oks] at ho
  | _ :: _, [], _, _, _, ho, _, _, _ => by simp [oks] at ho
  | [], [], _ :: _, _, _, _, ht, _, _ => by simp [DataW.TrodAll] at ht
  | [], [], [], _ :: _, _, _, ht, _, _ => by simp [DataW.TrodAll] at ht
  | _ :: _, _ :: _, [], _, _, _, ht, _, _ => by simp [DataW.TrodAll] at ht
  | _ :: _, _ :: _, _ :: _, [], _, _, ht, _, _ => by simp [DataW.TrodAll] at ht
theorem args_stay (hl : laidOutB P = true) (hb : Below W.heap.size W W') : ∀ {ts : List TypeId} {vs : List Value} {ds : List (DataW H)} {ps : List MemPlace}, (ts.all fun t => P.readableRec t && decide (t < P.types.size)) = true →
    DataW.TrodAll enc P W 0 (fun _ => true) true ts vs ds ps → (∀ x ∈ ps, x.block < W.heap.size) → DataW.TrodAll enc P W' 0 (fun b => decide (b < W.heap.size)) true ts vs ds ps
  | [], [], [], ps, _, h, _ => h
  | t :: ts, v :: vs, d :: ds, ps, hr, h, hlt => by
    obtain ⟨p, q, h1, h2, rfl⟩ := h
    simp only [List.all_cons, Bool.and_eq_true, decide_eq_true_eq] at hr
    exact ⟨p, q, hb.trod hl hr.1.1 hr.1.2 h1 fun x hx => hlt x (by simp [hx]), args_stay hl hb hr.2 h2 fun x hx => hlt x (by simp [hx]), rfl⟩
  | [], _ :: _, _, _, _, h, _ => by simp [DataW.TrodAll] at h
  | [], [], _ :: _, _, _, h, _ => by simp [DataW.TrodAll] at h
  | _ :: _, [], _, _, _, h, _ => by simp [DataW.TrodAll] at h
  | _ :: _, _ :: _, [], _, _, h, _ => by simp [DataW.TrodAll] at h
end
theorem gl_of {W : World} (hL : laidMetH Tryz.prog laidN W) (hS : W.ShapedOpen Tryz.prog) : Gl (GW W) :=
  ⟨(max_of_shaped hS).imp fun m h => ⟨_, h, rfl, .imm _ rfl⟩, ⟨_, handle_of_laid hL, rfl, .imm _ rfl⟩⟩
theorem Tryz.laidOut : laidOutB Tryz.prog = true := by kernel_rfl
set_option maxRecDepth 100000 in
theorem law_lifted {f : FuncId} {fn : Func} {s : ChangeSpec} (ss : List PT) (os : Os) (started : os.Started) (H : Type) (enc : TypeId × Value → H)
    (noInit : Tryz.prog.inits.idxOf? f = none) (hfn : Tryz.prog.funcs[f]? = some fn) (hvars : s.vars = []) (hoks : oks Tryz.prog ss fn.params.toList = true) (hread : (fn.params.toList.all fun t => Tryz.prog.readableRec t && decide (t < Tryz.prog.types.size)) = true)
    (hres : fn.resultTypes = #[4]) (hspec : ∀ ds : List (DataW H), ds.length = ss.length → s.fn H ds = { results := [.lit (.bool true)], args := ds }) (law : ∀ l, Args ss l → Has Tryz.prog f l (.imm (.bool true)) noTok)
    (witness : ∃ (w : World) (tape : Tape) (i : Input), w.os = os ∧ (w.forCall tape i).Shaped Tryz.prog ∧ i.vars = [] ∧ Input.okWide Tryz.prog (w.forCall tape i) .any w.heap.size f i ∧
      ((s.pre enc Tryz.prog fn [] false (w.forCall tape i).memory i.args ∧ laidMetH Tryz.prog laidN (w.forCall tape i).memory) ∧ sizedMet enc Tryz.prog fn (OpenSpec.ofChange s) false (w.forCall tape i).memory i.args) ∧ ({} : Assume).holds Tryz.prog (lone (Frame.enter Tryz.prog f i.args .normal) [] (w.forCall tape i))) :
    ReturnsInHanded {} Tryz.checked os f .any (fun w args => (s.pre enc Tryz.prog fn [] false w args ∧ laidMetH Tryz.prog laidN w) ∧ sizedMet enc Tryz.prog fn (OpenSpec.ofChange s) false w args) (s.post enc Tryz.prog fn false true false false) := by
  refine returnsInHanded_of_calls (C := Tryz.checked) Tryz.ownNone started noInit witness ?_
  intro w tape i _ hsh _ hok hpre _
  obtain ⟨_, _, _, fn', hfn', _, _, _, hsz, hval⟩ := hok
  have e : fn' = fn := Option.some.inj (hfn'.symm.trans hfn)
  subst e
  obtain ⟨⟨⟨ds, gs, before, hw0, -⟩, hx⟩, hz⟩ := hpre
  have hw := DataW.Whole.of_heap (w' := w.forCall tape i) (by rfl) hw0
  have hL : laidMetH Tryz.prog laidN (w.forCall tape i) := hx.of_heap (by rfl)
  have hwt := hz.weights hw0
  have hval : ∀ (j : Nat) t v, fn'.params[j]? = some t → i.args[j]? = some v → Value.okWide Tryz.prog (w.forCall tape i) .any w.heap.size t v := hval
  generalize w.forCall tape i = W at *
  clear hw0 hx hz
  have hW := hw
  obtain ⟨p, q, hA, hV, rfl, _, _⟩ := hW
  rw [hvars] at hV
  obtain ⟨rfl, rfl⟩ := trodVars_none hV
  have hwt' : ∀ n ∈ DataW.weightsEach Tryz.prog fn'.params.toList ds, n ≤ reachBytes := fun n hn => by
    have hvt : s.plain.varTypes Tryz.prog = [] := by simp [DataSpec.varTypes, ChangeSpec.plain, hvars]
    have hwt : (DataW.weightsEach Tryz.prog (fn'.params.toList ++ s.plain.varTypes Tryz.prog) (ds ++ [])).all (· ≤ reachBytes) = true := hwt
    rw [hvt, List.append_nil, List.append_nil] at hwt
    exact of_decide_eq_true (List.all_eq_true.1 hwt n hn)
  obtain ⟨l, hargs, hlen, hr⟩ := args_read (base := w.heap.size) hoks hA (fun j t v h h' => hval j t v (by rw [Array.getElem?_toList] at h; exact h) (by rw [Array.getElem?_toList] at h'; exact h')) hwt'
  have hlt : ∀ x ∈ p ++ ([] : List MemPlace), x.block < W.heap.size := fun x hx => by simpa using hw.lt x hx
  have hdl : ds.length = ss.length := by
    have h1 : ∀ {ss : List PT} {l : List AV}, Args ss l → ss.length = l.length := by
      intro ss
      induction ss with
      | nil => intro l h; cases l with
        | nil => rfl
        | cons => exact h.elim
      | cons s ss ih => intro l h; cases l with
        | nil => exact h.elim
        | cons a l => simp [ih h.2]
    have h2 : ∀ {ts : List TypeId} {vs : List Value} {ds : List (DataW H)} {ps : List MemPlace}, DataW.TrodAll enc Tryz.prog W 0 (fun _ => true) true ts vs ds ps → ds.length = vs.length := by
      intro ts
      induction ts with
      | nil => intro vs ds ps h; cases vs <;> cases ds <;> simp [DataW.TrodAll] at h ⊢
      | cons t ts ih => intro vs ds ps h; cases vs <;> cases ds <;> simp [DataW.TrodAll] at h ⊢; obtain ⟨p, q, _, h, _⟩ := h; exact ih h
    rw [h2 hA, h1 hargs, hlen]
  refine ((law l hargs).use_imm W (gl_of hL hsh) i.args (by rw [← hlen, Array.length_toList]) fun j v b h h' => hr j v b (by rw [Array.getElem?_toList]; exact h) h').mono ?_
  rintro e W' ⟨rfl, hb⟩
  refine ChangeSpec.post_blind ⟨ds, [], p ++ [], [], p, [], hw, ?_, ?_, ?_, hb.frame _, fun h => by cases h⟩
  · rw [List.append_nil, hspec ds hdl, hres]
    exact trodAll_mk1 (shut_bool Tryz.underlying4 true)
  · rw [List.append_nil, hspec ds hdl]
    exact args_stay Tryz.laidOut hb hread hA fun x hx => hlt x (by simp [hx])
  · rw [List.append_nil, hspec ds hdl, hvars]
    rfl
end Go.Proofs.YtldnkeackphilaaGreatDoor
namespace Go.Proofs.YtldnkeackphilaaGreatDoor
open Go.ChangeShapes Go.WideShapes Go.RowKit

def tpartPT : PT := .st (.pair .nu (.pair .tx (.pair .nu (.pair (.sl .nu 8) .unit))))
def treePT : PT := .st (.pair (.sl tpartPT 56) .unit)
theorem tpart_of {l : List AV} (h : tpartPT.Of l) : ∃ p : Part, l = pCs p ∧ R64 p.kind ∧ R64 p.num ∧ p.text.size ≤ 140737488351232 ∧ p.kids.length ≤ 35184372088064 ∧ ∀ k ∈ p.kids, R64 k := by
  obtain ⟨l1, r1, rfl, ⟨a, rfl, ha⟩, l2, r2, rfl, ⟨b, rfl, hb⟩, l3, r3, rfl, ⟨c, rfl, hc⟩, l4, r4, rfl, hd, rfl⟩ := h
  obtain ⟨d, rfl, hd2, hd3⟩ := ints_of' hd
  have r64 : ∀ n : Int, -9223372036854775808 ≤ n ∧ n ≤ 9223372036854775807 → R64 n := fun n h => ⟨h.1, h.2⟩
  exact ⟨⟨a, b, c, d⟩, rfl, r64 a ha, r64 c hc, by simpa [reachBytes] using hb, by show d.length ≤ _; omega, fun k hk => r64 k (hd3 k hk)⟩
theorem tree_of {l : List AV} (h : treePT.Of l) : ∃ ps : List Part, l = [psA ps] ∧ X.PB ps := by
  obtain ⟨l1, r1, rfl, ⟨es, rfl, hl, he⟩, rfl⟩ := h
  obtain ⟨L, rfl, hL⟩ := map_of (f := pCs) (Q := fun p => R64 p.kind ∧ R64 p.num ∧ p.text.size ≤ 140737488351232 ∧ p.kids.length ≤ 35184372088064 ∧ ∀ k ∈ p.kids, R64 k) fun x hx => tpart_of (he x hx)
  have := len_of (m := 2513169434850) (k := 56) (by simpa using hl) (by omega) (by omega)
  exact ⟨L, rfl, Nat.le_trans this (by decide), hL⟩
theorem tree_args {f : FuncId} (law : ∀ (ps : List Part) (scope : Int), R64 scope → X.PB ps → Has Tryz.prog f [.agg [psA ps], iA scope] (bA true) noTok) (l : List AV) (h : Args [treePT, .nu] l) : Has Tryz.prog f l (.imm (.bool true)) noTok := by
  rcases l with _ | ⟨a, _ | ⟨b, _ | ⟨c, l⟩⟩⟩
  · exact h.elim
  · exact h.2.elim
  · obtain ⟨h1, h2, -⟩ := h
    cases a with
    | agg l =>
      obtain ⟨ps, rfl, hp⟩ := tree_of h1
      obtain ⟨n, e, hn⟩ := h2
      cases e
      exact law ps n ⟨hn.1, hn.2⟩ hp
    | _ => exact h1.elim
  · exact h.2.2.elim
theorem args_len : ∀ {ss : List PT} {l : List AV}, Args ss l → ss.length = l.length
  | [], [], _ => rfl
  | _ :: _, _ :: _, h => by simp [args_len h.2]
  | [], _ :: _, h => h.elim
  | _ :: _, [], h => h.elim
end Go.Proofs.YtldnkeackphilaaGreatDoor
namespace Go.Proofs.YtldnkeackphilaaGreatDoor
open Go.ChangeShapes Go.WideShapes Go.RowKit

set_option maxRecDepth 100000 in
theorem normDual_lifted (os : Os) (started : os.Started) (H : Type) (enc : TypeId × Value → H) :
    ReturnsInHanded {} Tryz.checked os 7 .any (fun w args => (Rows.normDualSpec.pre enc Tryz.prog Tryz.f7 [] false w args ∧ laidMetH Tryz.prog laidN w) ∧ sizedMet enc Tryz.prog Tryz.f7 (OpenSpec.ofChange Rows.normDualSpec) false w args) (Rows.normDualSpec.post enc Tryz.prog Tryz.f7 false true false false) :=
  law_lifted [treePT, .nu] os started H enc (by kernel_rfl) Tryz.func7 rfl (by kernel_rfl) (by kernel_rfl) (by kernel_rfl)
    (fun ds hd => by
      match ds, hd with
      | [d1, d2], _ => rfl)
    (tree_args X.normDual_h)
    (ChangeSpec.witness_shaped (enc := enc) (C := Tryz.checked) (os := os) (X := fun w _ => laidMetH Tryz.prog laidN w) false (witW os) #[.agg #[.slice .none 0 0], .int .i64 0] 8 (witW_os os)
      (World.shaped_of_ZipB (by kernel_rfl) (by kernel_rfl)) (by kernel_rfl) (by kernel_rfl) (by kernel_rfl) (witW_met os _))
theorem normDual_holds : Rows.NormDualSaid :=
  OpenClaim.holds_of_wide 7 Tryz.f7 rfl rfl rfl rfl rfl rfl rfl ⟨rfl, rfl, rfl, rfl, rfl⟩ rfl rfl rfl rfl rfl (by kernel_rfl) Tryz.func7 normDual_facts
    (of_decide_eq_true (by kernel_rfl)) (by unfold Func.isWrapper; first | (rw [if_pos (by decide +kernel)]; kernel_rfl) | (rw [if_neg (by decide +kernel)]; exact ⟨rfl, rfl⟩))
    (fun os started H enc _ => normDual_lifted os started H enc)
theorem normDual_card : Rows.NormDualCardSaid :=
  Claim7.holds_tied_plain_at .later [] [.data, .handle, .pinned] true (true, "3a9c8ba0db31394d13176adf808722b56f8a218ac4adacccb409ce61df157404") true
    normDual_holds (fun _ h => by cases h) (by kernel_rfl) (fun _ h => by cases h) normDual_row_tie rfl ⟨rfl, rfl⟩ (by kernel_rfl) rfl
    (fun f fn hf hfn => by
      obtain rfl : f = 7 := Option.some.inj ((show Tryz.prog.funcNamed "berth/berthlaw16.NormDual" = some 7 by kernel_rfl).symm.trans hf) |>.symm
      obtain rfl : fn = Tryz.f7 := (Option.some.inj (Tryz.func7.symm.trans hfn)).symm
      exact ⟨by kernel_rfl, fun j t ht => by
        rw [Tryz.params7] at ht
        have hm : t ∈ [30, 3] := by simpa using Array.mem_of_getElem? ht
        have hall : ([30, 3].all fun u => !Tryz.prog.wantsStandIn u) = true := by kernel_rfl
        exact (show Tryz.prog.wantsStandIn t = false by simpa using List.all_eq_true.1 hall t hm)⟩)
    (by kernel_rfl)
#print axioms normDual_card
end Go.Proofs.YtldnkeackphilaaGreatDoor
