/- Scopes in a checked tree: a part is the kid of one part alone; its scope is that of what it stands in. -/
import Derived.Test.YtldnkeackphilaaGreatDoorNd17
import Derived.Test.YtldnkeackphilaaGreatDoorNd11
import Derived.Test.YtldnkeackphilaaGreatDoorNd10
import Derived.Test.YtldnkeackphilaaGreatDoorNd14
set_option linter.unusedSimpArgs false
set_option linter.unusedVariables false
set_option linter.unusedSectionVars false
namespace Go.Proofs.YtldnkeackphilaaGreatDoor

theorem shapeGo_from (ps : List Part) : ∀ (l : List Part) (i : Nat) (free f : List Int), shapeGo ps l i free = .inr f → ∀ (j : Nat) p, l[j]? = some p → ∀ k ∈ p.kids, k ∈ free ∨ (i : Int) ≤ k
  | [], _, _, _, _ => fun j p hj => by simp at hj
  | q :: r, i, free, f, h => fun j p hj k hk => by
    rw [shapeGo] at h
    split at h
    · next hok =>
      simp only [partOk, Bool.and_eq_true, decide_eq_true_eq] at hok
      obtain ⟨⟨⟨h1, h2⟩, h3⟩, h4⟩ := hok
      match j with
      | 0 =>
        cases hj
        rw [h3] at hk
        exact .inl (List.mem_of_mem_drop hk)
      | j + 1 =>
        rcases shapeGo_from ps r (i + 1) _ f h j p (by simpa using hj) k hk with h5 | h5
        · rcases List.mem_append.1 h5 with h5 | h5
          · exact .inl (List.mem_of_mem_take h5)
          · simp at h5; exact .inr (by omega)
        · exact .inr (by omega)
    · cases h
theorem nodup_drop_take {l : List Int} (h : l.Nodup) (n : Nat) {k : Int} (hk : k ∈ l.drop n) : k ∉ l.take n := by
  rw [← List.take_append_drop n l, List.nodup_append] at h
  exact fun hk' => h.2.2 k hk' k hk rfl
theorem shapeGo_uniq (ps : List Part) : ∀ (l : List Part) (i : Nat) (free f : List Int), shapeGo ps l i free = .inr f → free.Nodup → (∀ x ∈ free, 0 ≤ x ∧ x < (i : Int)) →
    ∀ (a b : Nat) p q, l[a]? = some p → l[b]? = some q → a < b → ∀ k ∈ p.kids, k ∉ q.kids
  | [], _, _, _, _, _, _ => fun a b p q ha => by simp at ha
  | x :: r, i, free, f, h, hn, hf => fun a b p q ha hb hab k hk => by
    rw [shapeGo] at h
    split at h
    · next hok =>
      simp only [partOk, Bool.and_eq_true, decide_eq_true_eq] at hok
      obtain ⟨⟨⟨h1, h2⟩, h3⟩, h4⟩ := hok
      have hn' : (free.take (free.length - x.kids.length) ++ [(i : Int)]).Nodup := by
        rw [List.nodup_append]
        refine ⟨hn.sublist (List.take_sublist _ _), by simp, fun y hy z hz e => ?_⟩
        simp at hz
        have := hf y (List.mem_of_mem_take hy)
        omega
      have hf' : ∀ y ∈ free.take (free.length - x.kids.length) ++ [(i : Int)], 0 ≤ y ∧ y < ((i + 1 : Nat) : Int) := fun y hy => by
        rcases List.mem_append.1 hy with hy | hy
        · have := hf y (List.mem_of_mem_take hy); omega
        · simp at hy; omega
      match b, hab with
      | b + 1, hab =>
        have hb' : r[b]? = some q := by simpa using hb
        match a with
        | 0 =>
          cases ha
          intro hkq
          have hkf : k ∈ free.drop (free.length - x.kids.length) := by rw [← h3]; exact hk
          have hki := hf k (List.mem_of_mem_drop hkf)
          rcases shapeGo_from ps r (i + 1) _ f h b q hb' k hkq with h5 | h5
          · rcases List.mem_append.1 h5 with h5 | h5
            · exact nodup_drop_take hn _ hkf h5
            · simp at h5; omega
          · omega
        | a + 1 => exact shapeGo_uniq ps r (i + 1) _ f h hn' hf' a b p q (by simpa using ha) hb' (by omega) k hk
    · cases h
theorem one_parent {ps : List Part} (hv : validF ps = none) {i j : Nat} {p q : Part} (hp : ps[i]? = some p) (hq : ps[j]? = some q) {k : Int} (h1 : k ∈ p.kids) (h2 : k ∈ q.kids) : i = j := by
  have hs := shape_of_valid hv
  unfold shapeF at hs
  split at hs
  · cases hs
  split at hs
  · cases hs
  split at hs
  · cases hs
  next f hf =>
  have hu := shapeGo_uniq ps ps 0 [] f hf (by simp) (by simp)
  rcases Nat.lt_trichotomy i j with h | h | h
  · exact absurd h2 (hu i j p q hp hq h k h1)
  · exact h
  · exact absurd h1 (hu j i q p hq hp h k h2)
theorem scopeKids_not (below : Int) (i : Nat) : ∀ (kids : List Int) (out : List Int), (∀ k ∈ kids, 0 ≤ k) → (i : Int) ∉ kids → (scopeKids below kids out)[i]? = out[i]?
  | [], out, _, _ => rfl
  | k :: r, out, h, hi => by
    have h1 := h k (by simp)
    have h2 : (i : Int) ≠ k := fun e => hi (by simp [e])
    have : scopeKids below (k :: r) out = scopeKids below r (out.set k.toNat below) := rfl
    rw [this, scopeKids_not below i r _ (fun x hx => h x (by simp [hx])) (fun hx => hi (by simp [hx])), List.getElem?_set_ne (by omega)]
theorem scopeKids_hit (below : Int) (i : Nat) : ∀ (kids : List Int) (out : List Int), (∀ k ∈ kids, 0 ≤ k) → (i : Int) ∈ kids → i < out.length → (scopeKids below kids out)[i]? = some below
  | k :: r, out, h, hi, hl => by
    have e : scopeKids below (k :: r) out = scopeKids below r (out.set k.toNat below) := rfl
    rw [e]
    by_cases hr : (i : Int) ∈ r
    · exact scopeKids_hit below i r _ (fun x hx => h x (by simp [hx])) hr (by simpa using hl)
    · rw [scopeKids_not below i r _ (fun x hx => h x (by simp [hx])) hr]
      have : k = i := by rcases List.mem_cons.1 hi with h' | h'; exact h'.symm; exact absurd h' hr
      subst this
      simp [hl]
set_option linter.unusedSectionVars false
section
variable {ps : List Part} (hw : WF ps)
include hw
theorem step_len (out : List Int) (i : Nat) : (scopeStep ps out i).length = out.length := by
  unfold scopeStep
  split
  · rfl
  · exact scopeKids_len _ _ _
theorem fold_len : ∀ (l : List Nat) (out : List Int), (l.foldr (fun i o => scopeStep ps o i) out).length = out.length
  | [], _ => rfl
  | i :: l, out => by rw [List.foldr_cons, step_len hw, fold_len l]
theorem step_not (out : List Int) (i k : Nat) (h : ∀ p, ps[i]? = some p → (k : Int) ∉ p.kids) : (scopeStep ps out i)[k]? = out[k]? := by
  unfold scopeStep
  split
  · rfl
  · next p hp => exact scopeKids_not _ _ _ _ (fun x hx => (hw.kids i p hp x hx).1) (h p hp)
theorem fold_not (k : Nat) : ∀ (l : List Nat) (out : List Int), (∀ i ∈ l, ∀ p, ps[i]? = some p → (k : Int) ∉ p.kids) → (l.foldr (fun i o => scopeStep ps o i) out)[k]? = out[k]?
  | [], _, _ => rfl
  | i :: l, out, h => by
    rw [List.foldr_cons, step_not hw _ i k (h i (by simp)), fold_not k l out fun j hj => h j (by simp [hj])]
end
def scopeAt (ps : List Part) (scope : Int) (i : Nat) : Int := (scopesF ps scope).getD i 0
theorem scope_kid {ps : List Part} (hv : validF ps = none) (scope : Int) {i : Nat} {p : Part} (hp : ps[i]? = some p) {k : Nat} (hk : (k : Int) ∈ p.kids) : scopeAt ps scope k = if selK p.kind then 3 else scopeAt ps scope i := by
  have hw := wf_of_shape (shape_of_valid hv)
  have hil := (List.getElem?_eq_some_iff.1 hp).1
  have hki := hw.kids i p hp k hk
  obtain ⟨init, hinit⟩ : ∃ x, x = (List.replicate ps.length (0 : Int)).set (ps.length - 1) scope := ⟨_, rfl⟩
  have hlen : init.length = ps.length := by rw [hinit]; simp
  have e : scopesF ps scope = (List.range ps.length).foldr (fun i o => scopeStep ps o i) init := by
    unfold scopesF
    rw [List.foldl_reverse, hinit]
  obtain ⟨A, hA⟩ : ∃ A, A = (List.range' (i + 1) (ps.length - (i + 1))).foldr (fun i o => scopeStep ps o i) init := ⟨_, rfl⟩
  have hsplit : List.range ps.length = List.range' 0 i ++ (i :: List.range' (i + 1) (ps.length - (i + 1))) := by
    rw [List.range_eq_range', show ps.length = i + (1 + (ps.length - (i + 1))) from by omega, ← List.range'_append_1, Nat.zero_add]
    congr 1
    rw [Nat.add_comm 1, List.range'_succ]
    congr 2
    omega
  have e2 : scopesF ps scope = (List.range' 0 i).foldr (fun i o => scopeStep ps o i) (scopeStep ps A i) := by rw [e, hsplit, List.foldr_append, List.foldr_cons, hA]
  have hAl : A.length = ps.length := by rw [hA, fold_len hw, hlen]
  have low : ∀ j ∈ List.range' 0 i, j < i := fun j hj => by have := List.mem_range'_1.1 hj; omega
  have h1 : (scopesF ps scope)[i]? = A[i]? := by
    rw [e2, fold_not hw i _ _ fun j hj q hq hm => by have := hw.kids j q hq _ hm; have := low j hj; omega]
    exact step_not hw A i i fun q hq hm => by have := hw.kids i q hq _ hm; omega
  have h2 : (scopesF ps scope)[k]? = (scopeStep ps A i)[k]? := by
    rw [e2, fold_not hw k _ _ fun j hj q hq hm => by have := one_parent hv hp hq hk hm; have := low j hj; omega]
  have h3 : (scopeStep ps A i)[k]? = some (if selK p.kind then 3 else A.getD i 0) := by
    unfold scopeStep
    rw [hp]
    exact scopeKids_hit _ k _ _ (fun x hx => (hw.kids i p hp x hx).1) hk (by omega)
  unfold scopeAt
  rw [List.getD_eq_getElem?_getD, List.getD_eq_getElem?_getD, h2, h3, h1]
  rw [List.getD_eq_getElem?_getD]
  rfl
end Go.Proofs.YtldnkeackphilaaGreatDoor
namespace Go.Proofs.YtldnkeackphilaaGreatDoor

theorem Tryz.mixed : Tryz.prog.follows .mixedOrders = true := by kernel_rfl
theorem X.mixed : Tryz.prog.follows .mixedOrders = true := Tryz.mixed
end Go.Proofs.YtldnkeackphilaaGreatDoor
namespace Go.Proofs.YtldnkeackphilaaGreatDoor.X
open Go.RowKit

set_option maxRecDepth 8000
theorem leaf_cs (k : Int) : treeA (.leaf k) = .ptr (treeCs k false .zero [] (.imm (.pointer none))) := by rw [Tr.leaf, tree_mk, selA_none]
theorem truth_h (b : Bool) (s : Int) : Has Tryz.prog 59 [bA b, iA s] (treeA (truthF b s)) noTok := by
  refine fnX mixed ⟨[0, 1, 4, 8], [10, 12], [], [], []⟩ Tryz.func59 rfl rfl rfl (by kernel_rfl) (by simp) ?_
  simp
  constructor
  · intro h
    rw [truthF, if_pos h, leaf_cs]
    simp [treeCs, strsA, intsA, LitD.zero, TermD.zero, noText]
  · intro h
    rw [truthF, if_neg h, leaf_cs]
    simp [treeCs, strsA, intsA, LitD.zero, TermD.zero, noText]
theorem other_h (s : Int) (h : 0 ≤ s ∧ s ≤ 1) : Has Tryz.prog 60 [iA s] (iA (1 - s)) noTok := by
  refine fnX mixed ⟨[0, 2], [], [], [], []⟩ Tryz.func60 rfl rfl rfl (by kernel_rfl) rfl ?_
  simp
  exact wrap64 (by omega) (by omega)
theorem literal_h (l : LitD) (s : Int) : Hs Tryz.prog 63 [.agg (litCs l), iA s] [] (.ref 2000 0) [] [(2000, .box 170 (treeCs 5 (s == 1) l [] (.imm (.pointer none))))] := by
  refine hsX mixed ⟨[0, 1, 2, 4], [2, 9], [], [], []⟩ [] [] [.slot 4 2000] Tryz.func63 rfl rfl rfl (by kernel_rfl) rfl ?_
  simp [treeCs, litCs, strsA, intsA]
def leftF (drop : Int) (kids : List Tr) (i : Nat) : List Tr := (kids.take i).filter fun t => decide (t.kind ≠ drop)
theorem left_next {drop : Int} {kids : List Tr} {i : Nat} {t : Tr} (h : kids[i]? = some t) : leftF drop kids (i + 1) = leftF drop kids i ++ if t.kind = drop then [] else [t] := by
  simp only [leftF, List.take_add_one, h, Option.toList_some, List.filter_append, List.filter_cons, List.filter_nil]
  by_cases e : t.kind = drop <;> simp [e]
theorem left_le (drop : Int) (kids : List Tr) (i : Nat) : (leftF drop kids i).length ≤ kids.length := by
  refine Nat.le_trans (List.length_filter_le _ _) ?_
  simp
  omega
set_option maxHeartbeats 1000000 in
theorem joined_h (kind : Int) (kids : List Tr) (hl : kids.length ≤ 100000) : Has Tryz.prog 61 [iA kind, .sl (kids.map fun t => [treeA t])] (treeA (joinF kind kids)) noTok := by
  refine fnX mixed ⟨[0, 1, 4, 5, 6, 7, 9, 11, 12, 13, 14, 15, 23, 32, 39, 40, 45], [7, 26, 35, 36, 44, 53], [], [], []⟩ Tryz.func61 rfl rfl rfl (by kernel_rfl) (by simp) ?_
  simp
  obtain ⟨drop, hd⟩ : ∃ d : Int, d = if kind = 4 then 2 else 1 := ⟨_, rfl⟩
  obtain ⟨win, hw⟩ : ∃ d : Int, d = if kind = 4 then 1 else 2 := ⟨_, rfl⟩
  have hJ : joinF kind kids = if kids.any (fun t => decide (t.kind = win)) then .leaf win else
      match leftF drop kids kids.length with
      | [] => .leaf drop
      | [t] => t
      | l => .mk kind false .zero l none := by
    simp only [joinF, ← hd, ← hw, leftF, List.take_length]
    rfl
  refine ⟨fun hk => ?_, fun hk => ?_⟩
  all_goals
    simp [hk] at hd hw
    refine wF_loop [.slot 7 7 99] [.slot 7 7] [0, 1, 4, 5, 6, 7, 12, 13, 14] (fun i : Nat => St.asc [(0, iA kind), (1, .sl (kids.map fun t => [treeA t])), (4, .imm (.pointer none)), (5, iA drop), (6, iA win), (7, .rw 7 0 (leftF drop kids i).length), (12, .sl (kids.map fun t => [treeA t])), (13, iA kids.length), (14, iA i)]
      [(7, .row 99 ((leftF drop kids i).map fun t => [treeA t]))] [(7, true)] false) (fun i => i ≤ kids.length ∧ kids.any (fun t => decide (t.kind = win)) = (kids.drop i).any (fun t => decide (t.kind = win))) (fun i => kids.length - i) 0 _ (by simp) (by simp [leftF, hk, hd, hw]) (by simp) ?_
    rintro i ⟨hi, hno⟩
    by_cases h : i < kids.length
    · have hx : kids[i]? = some kids[i] := List.getElem?_eq_getElem h
      rw [List.drop_eq_getElem_cons h, List.any_cons] at hno
      have hL := left_next (drop := drop) hx
      have hle := left_le drop kids i
      generalize kids[i] = t at *
      have h1 : IntKind.i64.wrap ((i : Int) + 1) = (i : Int) + 1 := wrap64 (by omega) (by omega)
      have hlen : List.take (leftF drop kids i).length (List.map (fun t => [treeA t]) (leftF drop kids i)) = List.map (fun t => [treeA t]) (leftF drop kids i) := List.take_of_length_le (by simp)
      simp [hx, h, treeCs, h1, hlen, -getElem?_pos]
      refine ⟨fun hwin => ?_, fun hnw => ⟨fun hnd => ⟨⟨by omega, by omega⟩, i + 1, ?_, ⟨by omega, ?_⟩, by omega⟩, fun hdr => ⟨i + 1, ?_, ⟨by omega, ?_⟩, by omega⟩⟩⟩
      · rw [hJ, hno, if_pos (by simp [hwin]), leaf_cs]
        simp [treeCs, strsA, intsA, LitD.zero, TermD.zero, noText]
      · simp [hL, hnd]
      · rw [hno]; simp [hnw]
      · simp [hL, hdr]
      · rw [hno]; simp [hnw]
    · obtain rfl : i = kids.length := by omega
      have hlen : List.take (leftF drop kids kids.length).length (List.map (fun t => [treeA t]) (leftF drop kids kids.length)) = List.map (fun t => [treeA t]) (leftF drop kids kids.length) := List.take_of_length_le (by simp)
      rw [List.drop_length] at hno
      rw [hno] at hJ
      simp only [List.any_nil, Bool.false_eq_true, if_false] at hJ
      generalize leftF drop kids kids.length = L at *
      rcases L with _ | ⟨t, _ | ⟨t2, r⟩⟩
      · simp
        simp only [hJ]
        rw [leaf_cs]
        simp [treeCs, strsA, intsA, LitD.zero, TermD.zero, noText]
      · simp
        simp only [hJ]
      · have hr : List.take r.length (List.map (fun t => [treeA t]) r) = List.map (fun t => [treeA t]) r := List.take_of_length_le (by simp)
        simp [hr]
        refine ⟨fun h => by omega, fun _ => ⟨fun h => by omega, fun _ => ?_⟩⟩
        simp only [hJ]
        rw [tree_mk]
        simp [treeCs, strsA, intsA, LitD.zero, TermD.zero, noText, selA_none]
end Go.Proofs.YtldnkeackphilaaGreatDoor.X
namespace Go.Proofs.YtldnkeackphilaaGreatDoor.X
open Go.RowKit

set_option maxRecDepth 8000
theorem turned_h (c : Int) : Has Tryz.prog 103 [iA c] (iA (turnF c)) noTok := by
  refine fnX mixed ⟨[0, 2, 3, 4, 6, 8, 10], [], [], [], []⟩ Tryz.func103 rfl rfl rfl (by kernel_rfl) rfl ?_
  simp
  refine ⟨?_, fun h1 => ⟨?_, fun h2 => ⟨?_, fun h3 => ⟨?_, ?_⟩⟩⟩⟩ <;> intro h <;> simp_all [turnF]
theorem text_eq (a b : ByteArray) : (a.toList = b.toList) ↔ a = b := ⟨fun h => data_inj (by rw [← Lib.toList_data, ← Lib.toList_data]; exact h), fun h => h ▸ rfl⟩
theorem stands_h (a b : OpdD) (c : Int) : Has Tryz.prog 101 [.agg a.cs, .agg b.cs, iA c] (bA (standsF a b c)) noTok := by
  refine fnX mixed ⟨[0, 1, 2, 3, 4, 6, 7, 8, 22, 29, 36], [3, 4], [], [], []⟩ Tryz.func101 rfl rfl rfl (by kernel_rfl) rfl ?_
  simp [OpdD.cs, text_eq]
  refine ⟨?_, fun h1 => ⟨?_, fun h2 => ⟨?_, fun h3 => ⟨?_, ?_⟩⟩⟩⟩ <;> intro h <;> simp_all [standsF] <;> rfl
@[simp] theorem lit_refsL (l : LitD) : refsL (litCs l) = [] := by simp [litCs, strsA, intsA]
@[simp] theorem tree_refsL (k : Int) (n : Bool) (l : LitD) (kids : List Tr) (sel : AV) : refsL (treeCs k n l kids sel) = refsA sel := by simp [treeCs, strsA, intsA]
theorem near_h (p : Part) (k : Int) (r : List Int) (hk : p.kids = k :: r) (ps : List Part) (s : Int) (T : Tr) (hT : Has Tryz.prog 38 [mkA ps, iA k, iA 0] (treeA T) noTok) :
    Has Tryz.prog 62 [mkA ps, .agg (pCs p), iA s] (treeA (if T.kind = 2 then truthF false s else .lit { LitD.zero with kind := 7, key := p.text } s (some T))) noTok := by
  refine fnX mixed ⟨[0, 1, 2, 4, 6, 7, 8, 19], [4, 26], [], [], []⟩ Tryz.func62 rfl rfl rfl (by kernel_rfl) (by simp) ?_
  simp [pCs, hk, intsA, psA, mkA]
  refine callP_of hT (by simp) (by simp) ?_
  simp [treeCs]
  refine ⟨fun h => ?_, fun h => ?_⟩
  · refine callP_of (truth_h false s) (by simp) (by simp) ?_
    simp [h]
  · refine callH_of [] [(2000, 26)] (literal_h { LitD.zero with kind := 7, key := p.text } s) (by simp [litCs, LitD.zero, TermD.zero, noText, strsA, intsA]) (by simp) (by simp) ?_
    simp [treeCs, strsA, intsA]
    simp [h, Tr.lit, tree_mk, treeCs, selA_some, strsA, intsA]
theorem against_h (t c : OpdD) (cmp s : Int) (hn : -1000000000000000000 ≤ c.n ∧ c.n ≤ 1000000000000000000) : Has Tryz.prog 102 [.agg t.cs, .agg c.cs, iA cmp, iA s] (treeA (againstF t c cmp s)) noTok := by
  refine fnX mixed ⟨[0, 1, 2, 3, 4, 5, 8, 9, 10, 16, 17, 23, 32, 35, 38, 45], [4, 5, 9, 26, 30, 54], [(5, [5]), (9, [9]), (40, [5]), (43, [9]), (44, [9]), (47, [5]), (50, [9]), (51, [9])], [(16, [26, 30])], []⟩ Tryz.func102 rfl rfl rfl (by kernel_rfl) (by simp) ?_
  have w1 : IntKind.i64.wrap (c.n - 1) = c.n - 1 := wrap64 (by omega) (by omega)
  have w2 : IntKind.i64.wrap (c.n + 1) = c.n + 1 := wrap64 (by omega) (by omega)
  simp [OpdD.cs, w1, w2]
  refine ⟨fun h1 => ⟨fun hn => ?_, fun hn => ?_⟩, fun h1 => ⟨fun h2 => ?_, fun h2 => ⟨fun h3 => ?_, fun h3 => ⟨fun h4 => ?_, fun h4 => ⟨fun h5 => ?_, fun h5 => ?_⟩⟩⟩⟩⟩
  all_goals
    refine callH_of [] [(2000, 54)] (literal_h (againstL t c cmp) s) (by simp [*, againstL, litCs, LitD.zero, TermD.zero, noText, strsA, intsA]) (by simp) (by simp) ?_
    simp [treeCs, strsA, intsA]
    simp [againstF, Tr.lit, tree_mk, treeCs, strsA, intsA]
end Go.Proofs.YtldnkeackphilaaGreatDoor.X
namespace Go.Proofs.YtldnkeackphilaaGreatDoor.X
open Go.RowKit

set_option maxRecDepth 8000
theorem has_same {P : Program} {f : FuncId} {fn : Func} {c : Code} {args : List AV} {a : AV} (hf : P.funcs[f]? = some fn) (hb : fn.body = some c) (hn : (fn.name == "runtime.NumGoroutine") = false) (ha : a.final = true)
    (h : ∀ G w (vals : Array Value), vals.size = args.length → (∀ (i : Nat) v b, vals[i]? = some v → args[i]? = some b → RS G v b) → ∃ v, (Calls P f vals w fun e w' => e = .returned v ∧ w' = w) ∧ RS G v a) : Has P f args a noTok := by
  refine ⟨ha, fun vals w => enters_of hf hb hn vals w, fun G w vals hc hl hv => ?_⟩
  obtain ⟨v, h1, h2⟩ := h G w vals hl hv
  refine h1.mono ?_
  rintro e w' ⟨rfl, rfl⟩
  refine ⟨v, G, noOm, rfl, ⟨⟨rfl, hc, fun g p hp => (by cases hp), fun t => ?_, fun t k E hE => ?_⟩, fun t k E hE => ?_⟩, .refl _ _ _⟩
  · by_cases ht : t = 0
    · subst ht
      exact .sh h2
    · have : (Go.Proofs.YtldnkeackphilaaGreatDoor.St.one a noTok).val t = .dead := by simp [Go.Proofs.YtldnkeackphilaaGreatDoor.St.one, ht]
      rw [this]
      exact .dead _
  · simp [Go.Proofs.YtldnkeackphilaaGreatDoor.St.one, noTok] at hE
  · simp [Go.Proofs.YtldnkeackphilaaGreatDoor.St.one, noTok] at hE
theorem int_h (s : ByteArray) (hs : s.size ≤ 9223372036854775807) : Has Tryz.prog 167 [sA s] (.tup [iA ((intF s).getD 0), bA (intF s).isSome]) noTok := by
  refine has_same Tryz.func167 rfl rfl rfl fun G w vals hl hv => ?_
  obtain ⟨l⟩ := vals
  match l, hl with
  | [v], _ =>
    have h0 := hv 0 v (sA s) rfl rfl
    cases h0
    refine ⟨_, int_c s w hs, .tup _ _ rfl fun j v a h1 h2 => ?_⟩
    match j with
    | 0 => cases h1; cases h2; exact .imm _ rfl
    | 1 => cases h1; cases h2; exact .imm _ rfl
    | j + 2 => simp at h1
set_option maxHeartbeats 1000000 in
theorem operand_h (ps : List Part) (c : Int → Int → Tr) (k : Nat) (p : Part) (hp : ps[k]? = some p) (hs : sideK p.kind)
    (h20 : p.kind = 20 → ∃ (i : Int) (r : List Int), p.kids = i :: r ∧ Has Tryz.prog 38 [mkA ps, iA i, iA 0] (treeA (c i 0)) noTok)
    (h19 : p.kind = 19 → ∃ (i : Nat) (r : List Int) (q : Part), p.kids = (i : Int) :: r ∧ ps[i]? = some q ∧ q.text.size ≤ 1000) :
    Has Tryz.prog 100 [mkA ps, iA k] (.agg (opdF c ps k).cs) noTok := by
  refine fnX mixed ⟨[0, 1, 4, 5, 6, 7, 8, 9, 20, 21, 26, 31, 38, 43, 49, 73, 87], [4, 5, 7], [(4, [4]), (5, [5]), (7, [7]), (51, [5]), (55, [5]), (65, [5])], [], []⟩ Tryz.func100 rfl rfl rfl (by kernel_rfl) (by simp [OpdD.cs]) ?_
  have hl : k < ps.length := (List.getElem?_eq_some_iff.1 hp).1
  have hg : ps[k] = p := by simpa [List.getElem?_eq_getElem hl] using hp
  have hF : opdF c ps k = opdOf c ps p := by simp [opdF, partAt_nat hp]
  rw [hF]
  rcases hs with h | h | h | h | h | h | h
  · simp [mkA, psA, hp, hl, pCs, h, opdOf, OpdD.cs, TermD.zero, noText, selA_none, -getElem?_pos]
  · simp [mkA, psA, hp, hl, pCs, h, opdOf, OpdD.cs, TermD.zero, noText, selA_none, -getElem?_pos]
  · simp [mkA, psA, hp, hl, pCs, h, opdOf, OpdD.cs, TermD.zero, noText, selA_none, -getElem?_pos]
  · simp [mkA, psA, hp, hl, pCs, h, opdOf, OpdD.cs, TermD.zero, noText, selA_none, -getElem?_pos]
  · simp [mkA, psA, hp, hl, pCs, h, opdOf, OpdD.cs, TermD.zero, noText, selA_none, -getElem?_pos]
  · obtain ⟨i, r, hk, hc⟩ := h20 h
    simp [mkA, psA, hp, hl, pCs, h, opdOf, OpdD.cs, TermD.zero, noText, selA_none, hk, intsA, hg]
    refine callP_of hc (by simp) (by simp) ?_
    simp [selA_some]
  · obtain ⟨i, r, q, hk, hq, ht⟩ := h19 h
    have hql : i < ps.length := (List.getElem?_eq_some_iff.1 hq).1
    have hqg : ps[i] = q := by simpa [List.getElem?_eq_getElem hql] using hq
    have hqq : partAt ps i = q := partAt_nat hq
    simp [mkA, psA, hp, hl, pCs, h, opdOf, OpdD.cs, TermD.zero, noText, selA_none, hk, intsA, hq, hql, hqq, hqg, hg]
    refine ⟨fun h14 => by simp [h14, selA_none], fun h14 => ?_⟩
    refine callP_of (int_h q.text (by omega)) (by simp) (by simp) ?_
    rcases hi : intF q.text with _ | n <;> simp [h, hk, hqq, h14, hi, selA_none]
theorem keyTerm_h (ps : List Part) (k : Int) (x : OpdD) (hx : Has Tryz.prog 100 [mkA ps, iA k] (.agg x.cs) noTok) : Has Tryz.prog 104 [mkA ps, iA k] (.agg (termCs (keyTermF x))) noTok := by
  refine fnX mixed ⟨[0, 1, 4, 5, 11], [4, 5], [], [], []⟩ Tryz.func104 rfl rfl rfl (by kernel_rfl) rfl ?_
  simp [mkA, psA]
  refine callP_of hx (by simp) (by simp [OpdD.cs]) ?_
  simp [OpdD.cs]
  refine ⟨fun h => ?_, fun h => ?_⟩ <;> simp [keyTermF, h, termCs, noText]
end Go.Proofs.YtldnkeackphilaaGreatDoor.X
namespace Go.Proofs.YtldnkeackphilaaGreatDoor.X
open Go.RowKit

set_option maxRecDepth 8000
def inR (x : OpdD) : Prop := -1000000000000000000 ≤ x.n ∧ x.n ≤ 1000000000000000000
def comparedY (a b : OpdD) (m s : Int) : Tr :=
  if a.step = 1 ∨ b.step = 1 then truthF false s
  else if a.step = 0 ∧ b.step = 0 then truthF (standsF a b m) s
  else if a.step = 0 then againstF b a (turnF m) s
  else if b.step = 0 then againstF a b m s
  else if a.term.side = 1 ∧ b.term.side ≠ 1 then .lit { LitD.zero with kind := 3, term := b.term, rel := turnF m, other := a.term } s b.sel
  else .lit { LitD.zero with kind := 3, term := a.term, rel := m, other := b.term } s a.sel
theorem comparedX_else (a b : OpdD) {n : Int} (h : ¬n = 2) (s : Int) : comparedX a b n s = comparedY a b n s := by simp only [comparedX, if_neg h]; rfl
set_option maxHeartbeats 2000000 in
theorem compared_aux (kind : Int) (text : ByteArray) (num i j : Int) (ps : List Part) (s : Int) (hs : 0 ≤ s ∧ s ≤ 1) (a b : OpdD) (ha : Has Tryz.prog 100 [mkA ps, iA i] (.agg a.cs) noTok) (hb : Has Tryz.prog 100 [mkA ps, iA j] (.agg b.cs) noTok) (ra : inR a) (rb : inR b) (res : Tr) (hr : Hid (res = comparedX a b num s)) :
    Has Tryz.prog 64 [mkA ps, .agg [iA kind, sA text, iA num, .sl [[iA i], [iA j]]], iA s] (treeA res) noTok := by
  refine fnX mixed ⟨[0, 1, 2, 4, 6, 7, 8, 9, 10, 14, 29, 40, 55, 65, 83], [4, 8, 9, 95], [(4, [4]), (8, [8]), (9, [9]), (18, [4]), (24, [4])], [], []⟩ Tryz.func64 rfl rfl rfl (by kernel_rfl) (by simp) ?_
  simp [psA, mkA]
  refine ⟨fun h2 => ?_, fun h2 => ?_⟩
  · refine callP_of (other_h s hs) (by simp) (by simp) ?_
    replace hr : Hid (res = comparedY a b 1 (1 - s)) := by rw [hr.out, h2]; rfl
    simp
    refine callP_of ha (by simp) (by simp [OpdD.cs]) ?_
    simp [OpdD.cs]
    refine callP_of hb (by simp) (by simp [OpdD.cs]) ?_
    simp [OpdD.cs]
    refine ⟨fun e1 => ?_, fun na nb => ⟨fun e2 e2' => ?_, fun e2 => ⟨fun e3 => ?_, fun e3 => ⟨fun e4 => ?_, fun e4 => ⟨fun e5 e5' => ?_, fun e5 => ?_⟩⟩⟩⟩⟩
    · refine callP_of (truth_h false _) (by simp) (by simp) ?_
      simp [hr.out, comparedY, e1]
    · refine callP_of (stands_h a b _) (by simp) (by simp) ?_
      simp
      refine callP_of (truth_h _ _) (by simp) (by simp) ?_
      simp [hr.out, comparedY, na, nb, e2, e2']
    · refine callP_of (turned_h _) (by simp) (by simp) ?_
      simp
      refine callP_of (against_h b a _ _ ra) (by simp) (by simp) ?_
      simp [hr.out, comparedY, na, nb, e3, e2 e3]
    · refine callP_of (against_h a b _ _ rb) (by simp) (by simp) ?_
      simp [hr.out, comparedY, na, nb, e3, e4]
    · refine callP_of (turned_h _) (by simp) (by simp) ?_
      simp
      refine callH_of [] [(2000, 95)] (literal_h { LitD.zero with kind := 3, term := b.term, rel := turnF 1, other := a.term } (1 - s)) (by simp [litCs, LitD.zero, TermD.zero, noText, strsA, intsA]) (by simp) (by simp) ?_
      simp [treeCs, strsA, intsA]
      simp [hr.out, comparedY, na, nb, e3, e4, e5, e5', Tr.lit, tree_mk, treeCs, strsA, intsA]
    · refine callH_of [] [(2000, 95)] (literal_h { LitD.zero with kind := 3, term := a.term, rel := 1, other := b.term } (1 - s)) (by simp [litCs, LitD.zero, TermD.zero, noText, strsA, intsA]) (by simp) (by simp) ?_
      simp [treeCs, strsA, intsA]
      simp [hr.out, comparedY, na, nb, e3, e4, Tr.lit, tree_mk, treeCs, strsA, intsA]
      rw [if_neg (by intro h; exact h.2 (e5 h.1)), tree_mk]
      simp [treeCs, strsA, intsA]
  · replace hr : Hid (res = comparedY a b num s) := by rw [hr.out, comparedX_else a b h2]; rfl
    refine callP_of ha (by simp) (by simp [OpdD.cs]) ?_
    simp [OpdD.cs]
    refine callP_of hb (by simp) (by simp [OpdD.cs]) ?_
    simp [OpdD.cs]
    refine ⟨fun e1 => ?_, fun na nb => ⟨fun e2 e2' => ?_, fun e2 => ⟨fun e3 => ?_, fun e3 => ⟨fun e4 => ?_, fun e4 => ⟨fun e5 e5' => ?_, fun e5 => ?_⟩⟩⟩⟩⟩
    · refine callP_of (truth_h false _) (by simp) (by simp) ?_
      simp [hr.out, comparedY, e1]
    · refine callP_of (stands_h a b _) (by simp) (by simp) ?_
      simp
      refine callP_of (truth_h _ _) (by simp) (by simp) ?_
      simp [hr.out, comparedY, na, nb, e2, e2']
    · refine callP_of (turned_h _) (by simp) (by simp) ?_
      simp
      refine callP_of (against_h b a _ _ ra) (by simp) (by simp) ?_
      simp [hr.out, comparedY, na, nb, e3, e2 e3]
    · refine callP_of (against_h a b _ _ rb) (by simp) (by simp) ?_
      simp [hr.out, comparedY, na, nb, e3, e4]
    · refine callP_of (turned_h _) (by simp) (by simp) ?_
      simp
      refine callH_of [] [(2000, 95)] (literal_h { LitD.zero with kind := 3, term := b.term, rel := turnF num, other := a.term } s) (by simp [litCs, LitD.zero, TermD.zero, noText, strsA, intsA]) (by simp) (by simp) ?_
      simp [treeCs, strsA, intsA]
      simp [hr.out, comparedY, na, nb, e3, e4, e5, e5', Tr.lit, tree_mk, treeCs, strsA, intsA]
    · refine callH_of [] [(2000, 95)] (literal_h { LitD.zero with kind := 3, term := a.term, rel := num, other := b.term } s) (by simp [litCs, LitD.zero, TermD.zero, noText, strsA, intsA]) (by simp) (by simp) ?_
      simp [treeCs, strsA, intsA]
      simp [hr.out, comparedY, na, nb, e3, e4, Tr.lit, tree_mk, treeCs, strsA, intsA]
      rw [if_neg (by intro h; exact h.2 (e5 h.1)), tree_mk]
      simp [treeCs, strsA, intsA]
end Go.Proofs.YtldnkeackphilaaGreatDoor.X
namespace Go.Proofs.YtldnkeackphilaaGreatDoor.X
open Go.RowKit

set_option maxRecDepth 8000
def CondC (ps : List Part) (n : Nat) : Prop := ∀ (i f : Nat) (s : Int) (p : Part), ps[i]? = some p → isCondF p.kind = true → i < n → i < f → 0 ≤ s ∧ s ≤ 1 → Has Tryz.prog 38 [mkA ps, iA i, iA s] (treeA (condF ps f i s)) noTok
def MemC (ps : List Part) (n f : Nat) : Prop := ∀ (i : Nat) (p : Part) (a b : Nat) (s : Int), ps[i]? = some p → p.kind = 7 → i ≤ n → p.kids = [(a : Int), (b : Int)] → 0 ≤ s ∧ s ≤ 1 → Has Tryz.prog 65 [mkA ps, iA a, iA b, iA s] (treeA (memberF (condF ps f) ps a b s)) noTok
set_option maxHeartbeats 2000000 in
theorem cond_aux (ps : List Part) (i : Nat) (kind : Int) (text : ByteArray) (num : Int) (kids : List Int) (hp : ps[i]? = some ⟨kind, text, num, kids⟩) (s : Int) (hs : 0 ≤ s ∧ s ≤ 1) (hlen : kids.length ≤ 1000) (c : Int → Int → Tr) (res : Tr) (hr : Hid (res = condStep c ps i s))
    (hK : Hid (kind = 3 ∨ kind = 4 ∨ kind = 5 ∨ kind = 8 ∨ kind = 9 → ∀ k ∈ kids, ∀ s, 0 ≤ s ∧ s ≤ 1 → Has Tryz.prog 38 [mkA ps, iA k, iA s] (treeA (c k s)) noTok))
    (h1 : Hid (kind = 3 ∨ kind = 8 ∨ kind = 9 → ∃ k, kids = [k]))
    (h6 : Hid (kind = 6 → ∃ j k, kids = [j, k] ∧ inR (opdF c ps j) ∧ inR (opdF c ps k) ∧ Has Tryz.prog 100 [mkA ps, iA j] (.agg (opdF c ps j).cs) noTok ∧ Has Tryz.prog 100 [mkA ps, iA k] (.agg (opdF c ps k).cs) noTok))
    (h7 : Hid (kind = 7 → ∃ j k, kids = [j, k] ∧ ∀ s, 0 ≤ s ∧ s ≤ 1 → Has Tryz.prog 65 [mkA ps, iA j, iA k, iA s] (treeA (memberF c ps j k s)) noTok))
    (hkd : kind = 1 ∨ kind = 2 ∨ kind = 3 ∨ kind = 4 ∨ kind = 5 ∨ kind = 6 ∨ kind = 7 ∨ kind = 8 ∨ kind = 9 ∨ kind = 10) : Has Tryz.prog 38 [mkA ps, iA i, iA s] (treeA res) noTok := by
  have hl : i < ps.length := (List.getElem?_eq_some_iff.1 hp).1
  have hg : ps[i] = ⟨kind, text, num, kids⟩ := by simpa [List.getElem?_eq_getElem hl] using hp
  have hP : partAt ps i = ⟨kind, text, num, kids⟩ := partAt_nat hp
  refine fnX mixed ⟨[0, 1, 2, 6, 7, 8, 10, 19, 20, 28, 38, 42, 43, 44, 45, 61, 66, 72, 79, 86, 94], [7, 8, 53, 54, 85], [(7, [7]), (31, [7]), (98, [7]), (102, [7])], [], []⟩ Tryz.func38 rfl rfl rfl (by kernel_rfl) (by simp) ?_
  rcases hkd with h | h | h | h | h | h | h | h | h | h <;> subst h
  · simp [psA, mkA, hg, hl, pCs]
    refine callP_of (truth_h true s) (by simp) (by simp) ?_
    simp [hr.out, condStep, hP]
  · simp [psA, mkA, hg, hl, pCs]
    refine callP_of (truth_h false s) (by simp) (by simp) ?_
    simp [hr.out, condStep, hP]
  · obtain ⟨k, rfl⟩ := h1.out (by simp)
    have hC := hK.out (by simp) k (by simp) (1 - s) (by omega)
    simp [psA, mkA, hg, hl, pCs, intsA]
    refine callP_of (other_h s hs) (by simp) (by simp) ?_
    simp
    refine callP_of hC (by simp) (by simp) ?_
    simp [hr.out, condStep, hP]
  · simp [psA, mkA, hg, hl, pCs, intsA]
    refine wF_loop [.slot 8 8 99] [.slot 7 7, .slot 8 8] [0, 2, 6, 7, 8, 42, 43, 44] (fun n : Nat => St.asc [(0, mkA ps), (2, iA s), (6, .imm (.pointer none)), (7, .ref 7 0), (8, .rw 8 0 n), (42, .sl (kids.map fun k => [iA k])), (43, iA kids.length), (44, iA n)]
      [(7, .box 66 [iA 4, sA text, iA num, .sl (kids.map fun k => [iA k])]), (8, .row 99 ((kids.map fun k => [treeA (c k s)]).take n))] [(7, true), (8, true)] false) (fun n => n ≤ kids.length) (fun n => kids.length - n) 0 _ (by simp) (by simp [mkA, psA]) (by simp) ?_
    rintro n hn
    by_cases h : n < kids.length
    · have hx : kids[n]? = some kids[n] := List.getElem?_eq_getElem h
      have hC := hK.out (by simp) kids[n] (List.getElem_mem h) s hs
      have htk : (kids.map fun k => [treeA (c k s)]).take (n + 1) = (kids.map fun k => [treeA (c k s)]).take n ++ [[treeA (c kids[n] s)]] := by rw [List.take_add_one, List.getElem?_map, hx]; rfl
      generalize kids[n] = k at *
      have h1 : IntKind.i64.wrap ((n : Int) + 1) = (n : Int) + 1 := wrap64 (by omega) (by omega)
      have hmin : min n kids.length = n := by omega
      simp [hx, h, mkA, psA, -getElem?_pos]
      refine callP_of hC (by simp) (by simp) ?_
      simp [h1, hmin]
      refine ⟨⟨by omega, by omega⟩, n + 1, ?_, by omega, by omega⟩
      simp [htk, mkA, psA, List.take_take]
    · obtain rfl : n = kids.length := by omega
      have hlen : List.take kids.length (List.map (fun k => [treeA (c k s)]) kids) = List.map (fun k => [treeA (c k s)]) kids := List.take_of_length_le (by simp)
      have hJ : ∀ d : Int, Has Tryz.prog 61 [iA d, .sl (kids.map fun k => [treeA (c k s)])] (treeA (joinF d (kids.map fun k => c k s))) noTok := fun d => by
        have := joined_h d (kids.map fun k => c k s) (by simp; omega)
        rw [List.map_map] at this
        exact this
      simp [hlen]
      refine ⟨fun hz => ?_, fun hz => ?_⟩
      · refine callP_of (hJ 3) (by simp) (by simp) ?_
        simp [hr.out, condStep, hP, hz]
      · refine callP_of (hJ 4) (by simp) (by simp) ?_
        simp [hr.out, condStep, hP, hz]
  · simp [psA, mkA, hg, hl, pCs, intsA]
    refine wF_loop [.slot 8 8 99] [.slot 7 7, .slot 8 8] [0, 2, 6, 7, 8, 42, 43, 44] (fun n : Nat => St.asc [(0, mkA ps), (2, iA s), (6, .imm (.pointer none)), (7, .ref 7 0), (8, .rw 8 0 n), (42, .sl (kids.map fun k => [iA k])), (43, iA kids.length), (44, iA n)]
      [(7, .box 66 [iA 5, sA text, iA num, .sl (kids.map fun k => [iA k])]), (8, .row 99 ((kids.map fun k => [treeA (c k s)]).take n))] [(7, true), (8, true)] false) (fun n => n ≤ kids.length) (fun n => kids.length - n) 0 _ (by simp) (by simp [mkA, psA]) (by simp) ?_
    rintro n hn
    by_cases h : n < kids.length
    · have hx : kids[n]? = some kids[n] := List.getElem?_eq_getElem h
      have hC := hK.out (by simp) kids[n] (List.getElem_mem h) s hs
      have htk : (kids.map fun k => [treeA (c k s)]).take (n + 1) = (kids.map fun k => [treeA (c k s)]).take n ++ [[treeA (c kids[n] s)]] := by rw [List.take_add_one, List.getElem?_map, hx]; rfl
      generalize kids[n] = k at *
      have h1 : IntKind.i64.wrap ((n : Int) + 1) = (n : Int) + 1 := wrap64 (by omega) (by omega)
      have hmin : min n kids.length = n := by omega
      simp [hx, h, mkA, psA, -getElem?_pos]
      refine callP_of hC (by simp) (by simp) ?_
      simp [h1, hmin]
      refine ⟨⟨by omega, by omega⟩, n + 1, ?_, by omega, by omega⟩
      simp [htk, mkA, psA, List.take_take]
    · obtain rfl : n = kids.length := by omega
      have hlen : List.take kids.length (List.map (fun k => [treeA (c k s)]) kids) = List.map (fun k => [treeA (c k s)]) kids := List.take_of_length_le (by simp)
      have hJ : ∀ d : Int, Has Tryz.prog 61 [iA d, .sl (kids.map fun k => [treeA (c k s)])] (treeA (joinF d (kids.map fun k => c k s))) noTok := fun d => by
        have := joined_h d (kids.map fun k => c k s) (by simp; omega)
        rw [List.map_map] at this
        exact this
      simp [hlen]
      refine ⟨fun hz => ?_, fun hz => ?_⟩
      · refine callP_of (hJ 3) (by simp) (by simp) ?_
        simp [hr.out, condStep, hP, hz]
      · refine callP_of (hJ 4) (by simp) (by simp) ?_
        simp [hr.out, condStep, hP, hz]
  · obtain ⟨j, k, rfl, r1, r2, o1, o2⟩ := h6.out rfl
    simp [psA, mkA, hg, hl, pCs, intsA]
    refine callP_of (compared_aux 6 text num j k ps s hs _ _ o1 o2 r1 r2 _ (Lib.hid rfl)) (by simp) (by simp) ?_
    simp [hr.out, condStep, hP, comparedF]
  · obtain ⟨j, k, rfl, hm⟩ := h7.out rfl
    simp [psA, mkA, hg, hl, pCs, intsA]
    refine ⟨fun hn => ?_, fun hn => ?_⟩
    · refine callP_of (other_h s hs) (by simp) (by simp) ?_
      simp
      refine callP_of (hm (1 - s) (by omega)) (by simp) (by simp) ?_
      simp [hr.out, condStep, hP, hn]
    · refine callP_of (hm s hs) (by simp) (by simp) ?_
      simp [hr.out, condStep, hP, hn]
  · obtain ⟨k, rfl⟩ := h1.out (by simp)
    have hC := hK.out (by simp) k (by simp) 0 (by omega)
    simp [psA, mkA, hg, hl, pCs, intsA]
    refine callP_of (near_h ⟨8, text, num, [k]⟩ k [] rfl ps s _ hC) (by simp) (by simp) ?_
    simp [hr.out, condStep, hP, nearF]
  · obtain ⟨k, rfl⟩ := h1.out (by simp)
    have hC := hK.out (by simp) k (by simp) 0 (by omega)
    simp [psA, mkA, hg, hl, pCs, intsA]
    refine callP_of (other_h s hs) (by simp) (by simp) ?_
    simp
    refine callP_of (near_h ⟨9, text, num, [k]⟩ k [] rfl ps (1 - s) _ hC) (by simp) (by simp) ?_
    simp [hr.out, condStep, hP, nearF]
  · simp [psA, mkA, hg, hl, pCs]
    refine callH_of [] [(2000, 85)] (literal_h { LitD.zero with kind := 6, key := text } s) (by simp [litCs, LitD.zero, TermD.zero, noText, strsA, intsA]) (by simp) (by simp) ?_
    simp [treeCs, strsA, intsA]
    simp [hr.out, condStep, hP, Tr.lit, tree_mk, treeCs, strsA, intsA, selA_none]
theorem kid_of (ps : List Part) (hw : WF ps) (n : Nat) (p : Part) (hp : ps[n]? = some p) (k : Int) (hk : k ∈ p.kids) : ∃ (i : Nat) (q : Part), k = i ∧ i < n ∧ ps[i]? = some q ∧ kidFitsF p.kind q.kind = true := by
  have h1 := hw.kids n p hp k hk
  have h2 := hw.kinds n p hp k hk
  have hl : k.toNat < ps.length := by have := (List.getElem?_eq_some_iff.1 hp).1; omega
  have hq : ps[k.toNat]? = some ps[k.toNat] := List.getElem?_eq_getElem hl
  refine ⟨k.toNat, ps[k.toNat], by omega, by omega, hq, ?_⟩
  have : kindAt ps k = ps[k.toNat].kind := by simp [kindAt, hq]
  rwa [this] at h2
theorem opd_inR (ps : List Part) (hw : WF ps) (c : Int → Int → Tr) (k : Nat) (p : Part) (hp : ps[k]? = some p) : inR (opdF c ps k) := by
  have hfit := hw.fits k p hp
  have hnum : numFitsF p.kind p.num = true := by simp only [partFitsF, Bool.and_eq_true, decide_eq_true_eq] at hfit; exact hfit.1.2
  rw [opdF, partAt_nat hp]
  unfold opdOf inR
  dsimp only
  repeat' split
  all_goals try (simp; done)
  · rename_i h
    simp only [numFitsF, h] at hnum
    simp at hnum
    simp only
    omega
  · have := intF_range (by assumption)
    simp only
    omega
theorem side_ops (ps : List Part) (ht : TT ps) (n f : Nat) (hn : n ≤ f) (H : CondC ps n) (k : Nat) (hk : k ≤ n) (p : Part) (hp : ps[k]? = some p) (hs : sideK p.kind) :
    Has Tryz.prog 100 [mkA ps, iA k] (.agg (opdF (condF ps f) ps k).cs) noTok := by
  have hfit := ht.wf.fits k p hp
  have hkd := ht.wf.kids k p hp
  have hcnt : kidCountF p.kind p.kids.length = true := by simp only [partFitsF, Bool.and_eq_true, decide_eq_true_eq] at hfit; exact hfit.2
  have one : p.kind = 20 ∨ p.kind = 19 → ∃ i : Nat, p.kids = [(i : Int)] ∧ i < k := fun h => by
    have h1 : (p.kids.length : Int) = 1 := by rcases h with h | h <;> simpa [kidCountF, h] using hcnt
    replace h1 : p.kids.length = 1 := by omega
    match hl : p.kids, h1 with
    | [a], _ =>
      have := hkd a (by simp [hl])
      exact ⟨a.toNat, by congr; omega, by omega⟩
  refine operand_h ps (condF ps f) k p hp hs (fun h => ?_) (fun h => ?_)
  · obtain ⟨i, hi, hik⟩ := one (.inl h)
    obtain ⟨i', q, he, h1, hq, hf⟩ := kid_of ps ht.wf k p hp i (by simp [hi])
    obtain rfl : i' = i := by omega
    exact ⟨i', [], hi, H i' f 0 q hq (by simpa [kidFitsF, h] using hf) (by omega) (by omega) (by omega)⟩
  · obtain ⟨i, hi, hik⟩ := one (.inr h)
    have hl : i < ps.length := by have := (List.getElem?_eq_some_iff.1 hp).1; omega
    refine ⟨i, [], ps[i], hi, List.getElem?_eq_getElem hl, ?_⟩
    have := ht.wf.fits i _ (List.getElem?_eq_getElem hl)
    simp only [partFitsF, Bool.and_eq_true, decide_eq_true_eq] at this
    omega
theorem cond_step (ps : List Part) (ht : TT ps) (n : Nat) (H : CondC ps n) (f : Nat) (hm : MemC ps n f) (hnf : n ≤ f) (s : Int) (hs : 0 ≤ s ∧ s ≤ 1) (p : Part) (hp : ps[n]? = some p) (hc : isCondF p.kind = true) :
    Has Tryz.prog 38 [mkA ps, iA n, iA s] (treeA (condF ps (f + 1) n s)) noTok := by
  have hfit := ht.wf.fits n p hp
  have hkd := ht.wf.kids n p hp
  have hcnt : kidCountF p.kind p.kids.length = true := by simp only [partFitsF, Bool.and_eq_true, decide_eq_true_eq] at hfit; exact hfit.2
  have two : p.kind = 6 ∨ p.kind = 7 → ∃ i j : Nat, p.kids = [(i : Int), (j : Int)] ∧ i < n ∧ j < n := fun h => by
    have h1 : (p.kids.length : Int) = 2 := by rcases h with h | h <;> simpa [kidCountF, h] using hcnt
    replace h1 : p.kids.length = 2 := by omega
    match hl : p.kids, h1 with
    | [a, b], _ =>
      have h2 := hkd a (by simp [hl])
      have h3 := hkd b (by simp [hl])
      exact ⟨a.toNat, b.toNat, by rw [Int.toNat_of_nonneg h2.1, Int.toNat_of_nonneg h3.1], by omega, by omega⟩
  have hnl : n < ps.length := (List.getElem?_eq_some_iff.1 hp).1
  refine cond_aux ps n p.kind p.text p.num p.kids hp s hs (ht.cnt n p hp) (condF ps f) _ (Lib.hid rfl) (Lib.hid fun hkk k hk s hs => ?_) (Lib.hid fun h => ?_) (Lib.hid fun h => ?_) (Lib.hid fun h => ?_) ?_
  · obtain ⟨i', q, rfl, h1, hq, hf⟩ := kid_of ps ht.wf n p hp k hk
    exact H i' f s q hq (by rcases hkk with h | h | h | h | h <;> simpa [kidFitsF, h] using hf) (by omega) (by omega) hs
  · have h1 : (p.kids.length : Int) = 1 := by rcases h with h | h | h <;> simpa [kidCountF, h] using hcnt
    replace h1 : p.kids.length = 1 := by omega
    match hl : p.kids, h1 with
    | [a], _ => exact ⟨a, rfl⟩
  · obtain ⟨i, j, hk, hi, hj⟩ := two (.inl h)
    have hsd := ht.cmp n p hp h
    have hpi : ps[i]? = some ps[i] := List.getElem?_eq_getElem (by omega)
    have hpj : ps[j]? = some ps[j] := List.getElem?_eq_getElem (by omega)
    simp only [hk, List.getD_cons_zero, List.getD_cons_succ, partAt_nat hpi, partAt_nat hpj] at hsd
    exact ⟨i, j, hk, opd_inR ps ht.wf _ i _ hpi, opd_inR ps ht.wf _ j _ hpj, side_ops ps ht n f hnf H i (by omega) _ hpi hsd.1, side_ops ps ht n f hnf H j (by omega) _ hpj hsd.2⟩
  · obtain ⟨i, j, hk, hi, hj⟩ := two (.inr h)
    exact ⟨i, j, hk, fun s hs => hm n p i j s hp h (Nat.le_refl _) hk hs⟩
  · simp only [isCondF, Bool.and_eq_true, decide_eq_true_eq] at hc
    omega
theorem cond_all (ps : List Part) (ht : TT ps) (hm : ∀ n f, n ≤ f → CondC ps n → MemC ps n f) : ∀ n, CondC ps n
  | 0 => fun i f s p _ _ hi => by omega
  | n + 1 => fun i f s p hp hc hi hf hs => by
    have ih := cond_all ps ht hm n
    rcases Nat.lt_or_ge i n with h | h
    · exact ih i f s p hp hc h hf hs
    · obtain rfl : i = n := by omega
      match f, hf with
      | f + 1, hf => exact cond_step ps ht i ih f (hm i f (by omega) ih) (by omega) s hs p hp hc
end Go.Proofs.YtldnkeackphilaaGreatDoor.X
namespace Go.Proofs.YtldnkeackphilaaGreatDoor.X
open Go.RowKit

structure PB (ps : List Part) : Prop where
  len : ps.length ≤ 4398046510976
  part : ∀ p ∈ ps, R64 p.kind ∧ R64 p.num ∧ p.text.size ≤ 140737488351232 ∧ p.kids.length ≤ 35184372088064 ∧ ∀ k ∈ p.kids, R64 k
theorem cell_imm {G : Gh} {w : World} (hc : CellsR G w) {g i : Nat} {v : Value} (h : G g i (.imm v)) : w.cell? ⟨g, i, none⟩ = some v := by
  obtain ⟨u, h1, _, h3⟩ := hc.get _ _ _ h
  cases h3
  exact h1
theorem glob_of {G : Gh} {w : World} (hc : CellsR G w) : Glob w := ⟨hc.gl.ml.imp fun _ h => cell_imm hc h, cell_imm hc hc.gl.et⟩
theorem ints_of {G : Gh} {w : World} (hc : CellsR G w) {v : Value} {l : List Int} (h : RS G v (intsA l)) (hl : l.length ≤ 35184372088064) (hk : ∀ k ∈ l, R64 k) : IntsV w v l := by
  unfold intsA at h
  generalize hes : l.map (fun n => [iA n]) = es at h
  have hlen : es.length = l.length := by rw [← hes]; simp
  cases h with
  | nil =>
    have : l = [] := List.eq_nil_of_length_eq_zero (by simpa using hlen.symm)
    subst this
    exact ⟨_, 0, rfl, by simp, fun j x hx => by simp at hx⟩
  | sl g o sz c _ hsz hcp hcell =>
    refine ⟨some ⟨g, o, none⟩, c, by rw [hlen], hl, fun j x hx => ⟨hk x (List.mem_of_getElem? hx), g, o, rfl, ?_⟩⟩
    have he : es[j]? = some [iA x] := by rw [← hes, List.getElem?_map, hx]; rfl
    have h1 : sz = 1 := (hsz _ (List.mem_of_getElem? he)).symm
    have h2 := cell_imm hc (hcell j _ 0 _ he rfl)
    rw [h1, Nat.mul_one, Nat.add_zero] at h2
    exact ⟨World.block_lt_of_cell? w _ h2, h2⟩
theorem parts_of {G : Gh} {w : World} (hc : CellsR G w) {v : Value} {ps : List Part} (h : RS G v (psA ps)) (hb : PB ps) : PartsV w v ps := by
  unfold psA at h
  generalize hes : ps.map pCs = es at h
  have hlen : es.length = ps.length := by rw [← hes]; simp
  cases h with
  | nil =>
    have : ps = [] := List.eq_nil_of_length_eq_zero (by simpa using hlen.symm)
    subst this
    exact ⟨_, 0, rfl, by simp, fun j x hx => by simp at hx⟩
  | sl g o sz c _ hsz hcp hcell =>
    refine ⟨some ⟨g, o, none⟩, c, by rw [hlen], hb.len, fun j p hp => ?_⟩
    obtain ⟨b1, b2, b3, b4, b5⟩ := hb.part p (List.mem_of_getElem? hp)
    have he : es[j]? = some (pCs p) := by rw [← hes, List.getElem?_map, hp]; rfl
    have h1 : sz = 4 := (hsz _ (List.mem_of_getElem? he)).symm
    subst h1
    obtain ⟨kv, k1, _, k3⟩ := hc.get _ _ _ (hcell j _ 3 (intsA p.kids) he rfl)
    exact ⟨g, o, kv, rfl, World.block_lt_of_cell? w _ k1, ⟨b1, b2, b3, ints_of hc k3 b4 b5⟩, cell_imm hc (hcell j _ 0 _ he rfl), cell_imm hc (hcell j _ 1 _ he rfl), cell_imm hc (hcell j _ 2 _ he rfl), k1⟩
theorem has_more {P : Program} {f : FuncId} {fn : Func} {c : Code} {args : List AV} {a : AV} (hf : P.funcs[f]? = some fn) (hb : fn.body = some c) (hn : (fn.name == "runtime.NumGoroutine") = false) (ha : a.final = true)
    (h : ∀ G w (vals : Array Value), CellsR G w → vals.size = args.length → (∀ (i : Nat) v b, vals[i]? = some v → args[i]? = some b → RS G v b) → Calls P f vals w fun e w' => ∃ v G', e = .returned v ∧ Below w.heap.size w w' ∧ CellsR G' w' ∧ Gle G G' ∧ (∀ g, g < w.heap.size → G' g = G g) ∧ RS G' v a) : Has P f args a noTok := by
  refine ⟨ha, fun vals w => enters_of hf hb hn vals w, fun G w vals hc hl hv => ?_⟩
  refine (h G w vals hc hl hv).mono ?_
  rintro e w' ⟨v, G', rfl, hB, hc', hle, hG, h2⟩
  refine ⟨v, G', noOm, rfl, ⟨⟨rfl, hc', fun g p hp => (by cases hp), fun t => ?_, fun t k E hE => ?_⟩, fun t k E hE => ?_⟩, hB.os, hB.tape, hB.output, hB.size, hle, fun g hg _ => ⟨hB.block g hg, hG g hg, rfl⟩⟩
  · by_cases ht : t = 0
    · subst ht
      exact .sh h2
    · have : (Go.Proofs.YtldnkeackphilaaGreatDoor.St.one a noTok).val t = .dead := by simp [Go.Proofs.YtldnkeackphilaaGreatDoor.St.one, ht]
      rw [this]
      exact .dead _
  · simp [Go.Proofs.YtldnkeackphilaaGreatDoor.St.one, noTok] at hE
  · simp [Go.Proofs.YtldnkeackphilaaGreatDoor.St.one, noTok] at hE
theorem cells_below {G : Gh} {w w' : World} (hc : CellsR G w) (hB : Below w.heap.size w w') : CellsR G w' := cells_old hc fun g ⟨i, a, hg⟩ => hB.block g (ghost_lt hc hg)
theorem valid_ok (ps : List Part) (hb : PB ps) (hv : validF ps = none) : Has Tryz.prog 19 [.agg [psA ps]] (.imm .nilIface) noTok := by
  refine has_more Tryz.func19 rfl rfl rfl fun G w vals hc hl hr => ?_
  obtain ⟨l⟩ := vals
  match l, hl with
  | [v], _ =>
    have h0 := hr 0 v (.agg [psA ps]) rfl rfl
    cases h0 with
    | agg vs _ hl1 h1 h2 =>
      obtain ⟨l⟩ := vs
      match l, hl1 with
      | [pv], _ =>
        have hp := parts_of hc (h2 0 pv _ rfl rfl) hb
        refine (valid_c ps pv w hp).mono ?_
        rintro e w' ⟨v, rfl, hv'⟩
        rw [hv] at hv'
        obtain ⟨hB, rfl⟩ := hv'
        exact ⟨_, G, rfl, hB, cells_below hc hB, .refl _, fun _ _ => rfl, .imm _ rfl⟩
theorem check_ok (ps : List Part) (scope : Int) (hsc : R64 scope) (hb : PB ps) (ts : List (Int × Int)) (hv : checkF ps scope = .inr ts) : Has Tryz.prog 20 [.agg [psA ps], iA scope] (.tup [.sl (ts.map fun t => [iA t.1, iA t.2]), .imm .nilIface]) noTok := by
  refine has_more Tryz.func20 rfl rfl rfl fun G w vals hc hl hr => ?_
  obtain ⟨l⟩ := vals
  match l, hl with
  | [v, sc], _ =>
    have h0 := hr 0 v (.agg [psA ps]) rfl rfl
    have hs := hr 1 sc (iA scope) rfl rfl
    cases hs
    cases h0 with
    | agg vs _ hl1 h1 h2 =>
      obtain ⟨l⟩ := vs
      match l, hl1 with
      | [pv], _ =>
        have hp := parts_of hc (h2 0 pv _ rfl rfl) hb
        refine (check_c ps pv scope w hp (glob_of hc) hsc).mono ?_
        rintro e w' ⟨tv, ev, rfl, hv'⟩
        rw [hv] at hv'
        obtain ⟨hB, rfl, hT, B, hwB, hO⟩ := hv'
        have hc' := cells_below hc hB
        have htup : ∀ {G' : Gh} {tv : Value}, RS G' tv (.sl (ts.map fun t => [iA t.1, iA t.2])) → RS G' (.tuple #[tv, .nilIface]) (.tup [.sl (ts.map fun t => [iA t.1, iA t.2]), .imm .nilIface]) := fun h => .tup _ _ rfl fun j v a h1 h2 => by
          match j with
          | 0 => cases h1; cases h2; exact h
          | 1 => cases h1; cases h2; exact .imm _ rfl
          | j + 2 => simp at h1
        rcases id hO with ⟨hx, ⟨rfl, h0⟩ | ⟨g, cap, cur, rfl, hg, hh, hcap, -⟩⟩
        · have : ts = [] := List.eq_nil_of_length_eq_zero h0
          subst this
          exact ⟨_, G, rfl, hB, hc', .refl _, fun _ _ => rfl, htup .nil⟩
        · have hle := gset_le G g fun j => ((tcells ts)[j]?).map AV.imm
          refine ⟨_, gset G g fun j => ((tcells ts)[j]?).map AV.imm, rfl, hB, ⟨fun g0 i a hga => ?_, hc.gl.mono hle⟩, hle, fun g0 hg0 => gset_ne _ _ (by omega), htup ?_⟩
          · rcases hga with hga | ⟨rfl, hga⟩
            · obtain ⟨v, k1, k2, k3⟩ := hc'.get _ _ _ hga
              exact ⟨v, k1, k2, k3.mono hle⟩
            · obtain ⟨u, hu, rfl⟩ := Option.map_eq_some_iff.1 hga
              have hcell := World.ownsRow.cells hO (g := g0) rfl i u hu
              rw [Addr.add_mid, Nat.zero_add] at hcell
              refine ⟨u, hcell, ?_⟩
              have hone : u.oneCell' = true := by
                have := List.mem_of_getElem? hu
                simp only [tcells, List.mem_flatMap] at this
                obtain ⟨t, _, ht⟩ := this
                simp at ht
                rcases ht with rfl | rfl <;> rfl
              exact ⟨hone, .imm _ hone⟩
          · have hlen : ts.length = (ts.map fun t => [iA t.1, iA t.2]).length := by simp
            rw [hlen]
            refine .sl g 0 2 cap _ (fun e he => ?_) (by simpa using hcap) fun i e j a he ha => .inr ⟨rfl, ?_⟩
            · obtain ⟨t, _, rfl⟩ := List.mem_map.1 he
              rfl
            · rw [List.getElem?_map] at he
              obtain ⟨t, ht, rfl⟩ := Option.map_eq_some_iff.1 he
              obtain ⟨k1, k2⟩ := tcells_at ts i t ht
              match j with
              | 0 => cases ha; simp [k1]
              | 1 => cases ha; simp [k2]
              | j + 2 => simp at ha
end Go.Proofs.YtldnkeackphilaaGreatDoor.X
