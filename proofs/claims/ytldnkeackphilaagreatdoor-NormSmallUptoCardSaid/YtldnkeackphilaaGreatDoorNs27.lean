/- NormValid's plain law: what norm's functions say and what berthref16's say is the same. -/
import Derived.Test.YtldnkeackphilaaGreatDoorNs26
import Derived.Test.YtldnkeackphilaaGreatDoorNs22
set_option linter.unusedSimpArgs false
set_option linter.unusedVariables false
namespace Go.Proofs.YtldnkeackphilaaGreatDoor
open Go.RowKit

theorem less_total : ∀ (a b : List UInt8), (Op.bytesLess a b || a == b) = !(Op.bytesLess b a)
  | [], [] => rfl
  | [], _ :: _ => rfl
  | _ :: _, [] => rfl
  | x :: a, y :: b => by
    have ih := less_total a b
    simp only [Op.bytesLess]
    have hc : ((x :: a) == (y :: b)) = (x == y && a == b) := rfl
    rw [hc]
    rcases Nat.lt_trichotomy x.toNat y.toNat with h | h | h
    · have h1 : x < y := UInt8.lt_iff_toNat_lt.2 h
      have h2 : ¬ y < x := fun h' => by have := UInt8.lt_iff_toNat_lt.1 h'; omega
      have h3 : (y == x) = false := by
        rw [Bool.eq_false_iff]
        intro e
        have := eq_of_beq e
        subst this
        omega
      simp [h1, h2, h3]
    · have : x = y := UInt8.toNat_inj.1 h
      subst this
      have h1 : ¬ x < x := fun h' => by have := UInt8.lt_iff_toNat_lt.1 h'; omega
      simp [h1, ih]
    · have h1 : y < x := UInt8.lt_iff_toNat_lt.2 h
      have h2 : ¬ x < y := fun h' => by have := UInt8.lt_iff_toNat_lt.1 h'; omega
      have h3 : (x == y) = false := by
        rw [Bool.eq_false_iff]
        intro e
        have := eq_of_beq e
        subst this
        omega
      simp [h1, h2, h3]
theorem texts_eq (l : List ByteArray) : nTextsF l = risingTextsF l := by
  unfold nTextsF risingTextsF
  congr 1
  funext i
  simp only [nTextAt, textAt, leqS, less_total, Bool.not_not]
  generalize (l.getD i noText).size = n
  generalize Op.bytesLess (l.getD (i - 1) noText).toList (l.getD i noText).toList = B
  grind
theorem nums_eq (l : List Int) : nNumsF l = risingNumsF l := by
  unfold nNumsF risingNumsF
  congr 1
  funext i
  simp only [nNumAt, numAt, fitsNumF]
  grind
theorem size_nil {s : ByteArray} (h : s.toList = []) : s.size = 0 := by
  rw [ByteArray.toList_eq] at h
  have : s.data.toList.length = 0 := by rw [h]; rfl
  simpa using this
theorem textTerm_eq (t : TermD) (pods : Bool) (sels : Int) : textTermF ⟨sels, !pods⟩ t = (termF t pods sels && textF t) := by
  have hk := size_nil (s := t.key)
  simp only [textTermF, termF, textF, moverF, sideF]
  generalize t.key.toList = K at *
  generalize t.key.size = n at *
  cases pods <;> grind
theorem numberTerm_eq (t : TermD) (pods : Bool) (sels : Int) : numberTermF ⟨sels, !pods⟩ t = (termF t pods sels && numberF t) := by
  simp only [numberTermF, termF, numberF, moverF, sideF, placeF]
  generalize t.key.toList = K at *
  generalize t.key.size = n at *
  cases pods <;> grind
theorem plainText_eq (t : TermD) (pods : Bool) (sels : Int) : plainTextF t = (termF t pods sels && t.kind == 1) := by
  simp only [plainTextF, termF]
  generalize t.key.toList = K at *
  generalize t.key.size = n at *
  cases pods <;> grind
theorem eqT_self (t : TermD) : eqT t t = true := by simp [eqT]
theorem len0 {α : Type} (l : List α) : decide (l.length > 0) = !(l.length == 0) := by cases l <;> simp
theorem lit1_eq (l : LitD) (pods : Bool) (sels : Int) (h : l.kind = 1) : nLitF ⟨sels, !pods⟩ l = litF l pods sels := by
  have hk := size_nil (s := l.key)
  simp only [nLitF, litF, h, sameF, restF, inF, textTerm_eq, numberTerm_eq, texts_eq, nums_eq, eqT_self, LitD.zero, noText_l, List.length_nil, len0]
  generalize eqT l.other .zero = E
  generalize l.key.toList = K at *
  generalize l.key.size = n at *
  generalize termF l.term pods sels = T
  generalize textF l.term = X
  generalize numberF l.term = Y
  grind
theorem lit2_eq (l : LitD) (pods : Bool) (sels : Int) (h : l.kind = 2) : nLitF ⟨sels, !pods⟩ l = litF l pods sels := by
  have hk := size_nil (s := l.key)
  simp only [nLitF, litF, h, sameF, restF, relF, numberTerm_eq, eqT_self, LitD.zero, noText_l, List.length_nil, len0]
  generalize eqT l.other .zero = E
  generalize l.key.toList = K at *
  generalize l.key.size = n at *
  generalize termF l.term pods sels = T
  generalize numberF l.term = Y
  generalize (l.texts.length == 0) = A
  generalize (l.nums.length == 0) = B
  grind
theorem lit3_eq (l : LitD) (pods : Bool) (sels : Int) (h : l.kind = 3) : nLitF ⟨sels, !pods⟩ l = litF l pods sels := by
  have hk := size_nil (s := l.key)
  have hn : numberF l.other = true ∧ termF l.other pods sels = true → True := fun _ => trivial
  simp only [nLitF, litF, h, sameF, restF, podF, pairF, textTerm_eq, numberTerm_eq, eqT_self, LitD.zero, noText_l, List.length_nil, len0]
  have hnum : (l.other.kind == 4) = true → numberF l.other = true := by
    intro h; simp only [numberF]; grind
  generalize numberF l.other = Y2 at *
  generalize l.key.toList = K at *
  generalize l.key.size = n at *
  generalize termF l.term pods sels = T
  generalize termF l.other pods sels = T2
  generalize textF l.term = X
  generalize textF l.other = X2
  generalize numberF l.term = Y
  generalize (l.texts.length == 0) = A
  generalize (l.nums.length == 0) = B
  cases T <;> cases T2 <;> cases X <;> cases A <;> cases B <;> simp <;> grind
theorem lit4_eq (l : LitD) (pods : Bool) (sels : Int) (h : l.kind = 4) : nLitF ⟨sels, !pods⟩ l = litF l pods sels := by
  have hk := size_nil (s := l.key)
  simp only [nLitF, litF, h, sameF, restF, keysF, textTerm_eq, plainText_eq l.term pods sels, eqT_self, LitD.zero, noText_l, List.length_nil, len0, moverF, sideF, ofPodF]
  generalize eqT l.other .zero = E
  generalize l.key.toList = K at *
  generalize l.key.size = n at *
  generalize termF l.term pods sels = T
  generalize textF l.term = X
  generalize (l.texts.length == 0) = A
  generalize (l.nums.length == 0) = B
  cases pods <;> cases T <;> cases X <;> cases A <;> cases B <;> cases E <;> simp <;> grind
theorem lit5_eq (l : LitD) (pods : Bool) (sels : Int) (h : l.kind = 5) : nLitF ⟨sels, !pods⟩ l = litF l pods sels := by
  have hk := size_nil (s := l.key)
  simp only [nLitF, litF, h, sameF, restF, textTerm_eq, plainText_eq l.term pods sels, eqT_self, LitD.zero, noText_l, List.length_nil, len0, ofPodF]
  generalize eqT l.other .zero = E
  generalize l.key.toList = K at *
  generalize l.key.size = n at *
  generalize termF l.term pods sels = T
  generalize textF l.term = X
  generalize (l.texts.length == 0) = A
  generalize (l.nums.length == 0) = B
  cases pods <;> cases T <;> cases X <;> cases A <;> cases B <;> cases E <;> simp <;> grind
theorem lit67_eq (l : LitD) (pods : Bool) (sels : Int) (h : l.kind = 6 ∨ l.kind = 7) : nLitF ⟨sels, !pods⟩ l = litF l pods sels := by
  rcases h with h | h
  all_goals
    simp only [nLitF, litF, h, sameF, restF, eqT_self, LitD.zero, noText_l, List.length_nil, len0, placeF]
    generalize eqT l.other .zero = E
    generalize eqT l.term .zero = E2
    generalize l.key.size = n at *
    generalize (l.texts.length == 0) = A
    generalize (l.nums.length == 0) = B
    cases pods <;> cases A <;> cases B <;> cases E <;> cases E2 <;> simp <;> grind
theorem lit_eq (l : LitD) (pods : Bool) (sels : Int) : nLitF ⟨sels, !pods⟩ l = litF l pods sels := by
  by_cases h1 : l.kind = 1
  · exact lit1_eq l pods sels h1
  by_cases h2 : l.kind = 2
  · exact lit2_eq l pods sels h2
  by_cases h3 : l.kind = 3
  · exact lit3_eq l pods sels h3
  by_cases h4 : l.kind = 4
  · exact lit4_eq l pods sels h4
  by_cases h5 : l.kind = 5
  · exact lit5_eq l pods sels h5
  by_cases h6 : l.kind = 6 ∨ l.kind = 7
  · exact lit67_eq l pods sels h6
  have h6' : ¬ l.kind = 6 := fun h => h6 (.inl h)
  have h7' : ¬ l.kind = 7 := fun h => h6 (.inr h)
  simp [nLitF, litF, h1, h2, h3, h4, h5, h6', h7']
end Go.Proofs.YtldnkeackphilaaGreatDoor
/- NormValid's plain law: parts, lists, plans. -/
namespace Go.Proofs.YtldnkeackphilaaGreatDoor
open Go.RowKit

theorem zero_eq (l : LitD) : isZeroF l = zeroF l := by
  simp only [isZeroF, zeroF, sameF, restF, LitD.zero, noText_l, len0, Bool.not_false, Bool.true_and, Bool.false_or]
  generalize eqT l.other .zero = E
  generalize eqT l.term .zero = E2
  generalize l.key.toList = K
  generalize (l.texts.length == 0) = A
  generalize (l.nums.length == 0) = B
  cases A <;> cases B <;> cases E <;> cases E2 <;> simp <;> grind
theorem step_eq (pods : Bool) (sels : Int) (free : List Int) (p : PartD) : stepOk pods sels free p = (nPartF ⟨sels, !pods⟩ p && decide (p.kids.length ≤ free.length) && (p.kids == free.drop (free.length - p.kids.length))) := by
  simp only [stepOk, nPartF, lit_eq, zero_eq]
  generalize litF p.lit pods sels = F
  generalize zeroF p.lit = Z
  generalize (p.kids == free.drop (free.length - p.kids.length)) = D
  generalize p.kids.length = K
  generalize free.length = M
  generalize p.neg = N
  generalize p.kind = k
  have e1 : (K == 0) = decide (K = 0) := rfl
  simp only [e1]
  have hk : k < 1 ∨ k = 1 ∨ k = 2 ∨ k = 3 ∨ k = 4 ∨ k = 5 ∨ k > 5 := by omega
  rcases hk with h | rfl | rfl | rfl | rfl | rfl | h
  · have h1 : ¬ k = 1 := by omega
    have h2 : ¬ k = 2 := by omega
    have h3 : ¬ k = 3 := by omega
    have h4 : ¬ k = 4 := by omega
    have h5 : ¬ k = 5 := by omega
    simp [h, h1, h2, h3, h4, h5]
  · cases F <;> cases Z <;> cases D <;> cases N <;> simp <;> grind
  · cases F <;> cases Z <;> cases D <;> cases N <;> simp <;> grind
  · cases F <;> cases Z <;> cases D <;> cases N <;> simp <;> grind
  · cases F <;> cases Z <;> cases D <;> cases N <;> simp <;> grind
  · cases F <;> cases Z <;> cases D <;> cases N <;> simp <;> grind
  · have h1 : ¬ k = 1 := by omega
    have h2 : ¬ k = 2 := by omega
    have h3 : ¬ k = 3 := by omega
    have h4 : ¬ k = 4 := by omega
    have h5 : ¬ k = 5 := by omega
    have h6 : 5 < k := h
    simp [h1, h2, h3, h4, h5, h6]
def wtL (l : List PartD) : Nat := (l.map partWt).sum
theorem measF_wt : ∀ (l : List PartD) (n : Nat), (measF l n ≤ 1000) = (n + wtL l ≤ 1000)
  | [], n => by simp [measF, wtL]
  | p :: l, n => by
    rw [measF]
    by_cases h : n ≤ 1000
    · rw [if_pos h, measF_wt l]
      simp [wtL]
      omega
    · rw [if_neg h]
      simp [wtL]
      omega
theorem measF_val : ∀ (l : List PartD) (n : Nat), n + wtL l ≤ 1000 → measF l n = n + wtL l
  | [], n, _ => by simp [measF, wtL]
  | p :: l, n, h => by
    have e : wtL (p :: l) = partWt p + wtL l := by simp [wtL]
    rw [e] at h ⊢
    rw [measF, if_pos (by omega), measF_val l _ (by omega)]
    omega
def wtP (ls : List (List PartD)) : Nat := (ls.map wtL).sum
theorem measP_wt : ∀ (ls : List (List PartD)) (n : Nat), (measP ls n ≤ 1000) = (n + wtP ls ≤ 1000)
  | [], n => by simp [measP, wtP]
  | l :: ls, n => by
    have e : wtP (l :: ls) = wtL l + wtP ls := by simp [wtP]
    rw [measP, e]
    by_cases h : n ≤ 1000
    · rw [if_pos h, measP_wt ls]
      by_cases h2 : wtL l ≤ 1000
      · rw [measF_val l 0 (by omega)]
        apply propext
        omega
      · have h3 : ¬ measF l 0 ≤ 1000 := by rw [measF_wt]; omega
        apply propext
        omega
    · rw [if_neg h]
      apply propext
      omega
theorem measureF_wt (p : PlanD) : (measureF p > 1000) = ¬ (wtL p.main + wtP p.sels ≤ 1000) := by
  have h1 := measP_wt p.sels (measF p.main 0)
  have h2 := measF_wt p.main 0
  apply propext
  unfold measureF
  by_cases h : wtL p.main ≤ 1000
  · rw [measF_val p.main 0 (by omega)] at h1 ⊢
    have h1' : measP p.sels (0 + wtL p.main) ≤ 1000 ↔ 0 + wtL p.main + wtP p.sels ≤ 1000 := by rw [h1]
    split <;> omega
  · have h3 : ¬ measF p.main 0 ≤ 1000 := by rw [h2]; omega
    have h1' : measP p.sels (measF p.main 0) ≤ 1000 ↔ measF p.main 0 + wtP p.sels ≤ 1000 := by rw [h1]
    split <;> omega
theorem plan_eq (p : PlanD) : planOkF p = (decide (wtL p.main + wtP p.sels ≤ 1000) && ((listF p.main false p.sels.length && p.sels.all fun l => listF l true 0) || (decide (p.sels.length = 0) && listF p.main true 0))) := by
  have hall : (List.range p.sels.length).all (selAt p) = p.sels.all fun l => listF l true 0 := by
    rw [Bool.eq_iff_iff, List.all_eq_true, List.all_eq_true]
    constructor
    · intro h l hl
      obtain ⟨i, hi, rfl⟩ := List.mem_iff_getElem.1 hl
      have := h i (List.mem_range.2 hi)
      simpa [selAt, hi] using this
    · intro h i hi
      have hi := List.mem_range.1 hi
      have := h p.sels[i] (List.getElem_mem hi)
      simpa [selAt, hi] using this
  unfold planOkF forF
  rw [hall]
  simp only [measureF_wt]
  generalize wtL p.main + wtP p.sels = W
  generalize hA : (p.sels.all fun l => listF l true 0) = A
  by_cases h0 : p.sels.length = 0
  · have hnil : p.sels = [] := List.length_eq_zero_iff.1 h0
    have hA' : A = true := by rw [← hA, hnil]; rfl
    subst hA'
    rw [h0]
    generalize listF p.main false ((0 : Nat) : Int) = B
    have e : ((0 : Nat) : Int) = 0 := rfl
    rw [e]
    generalize listF p.main true 0 = C
    by_cases hw : W ≤ 1000 <;> simp [hw] <;> cases B <;> cases C <;> rfl
  · have hpos : 0 < p.sels.length := by omega
    have h0' : ¬ p.sels = [] := fun h => h0 (by rw [h]; rfl)
    by_cases hw : W ≤ 1000 <;> simp [hw, hpos, h0, h0']
end Go.Proofs.YtldnkeackphilaaGreatDoor
/- norm's functions by the linear calculus: trees. -/
namespace Go.Proofs.YtldnkeackphilaaGreatDoor.X
open Go.RowKit

set_option maxRecDepth 8000
theorem mixed : Tryz.prog.follows .mixedOrders = true := by kernel_rfl
theorem leaf_cs (k : Int) : treeA (.leaf k) = .ptr (treeCs k false .zero [] (.imm (.pointer none))) := by rw [Tr.leaf, tree_mk, selA_none]
theorem truth_h (b : Bool) (s : Int) : Has Tryz.prog 59 [bA b, iA s] (treeA (truthF b s)) noTok := by
  refine fnX mixed ⟨[0, 1, 4, 8], [10, 12], [], [], []⟩ Tryz.func59 rfl rfl rfl (by kernel_rfl) (by simp) ?_
  simp
  constructor
  · intro h
    rw [truthF, if_pos h, leaf_cs]
    simp [treeCs, strsA, intsA, LitD.zero, TermD.zero, noText]
  · intro h
    rw [truthF, if_neg h, leaf_cs]
    simp [treeCs, strsA, intsA, LitD.zero, TermD.zero, noText]
theorem other_h (s : Int) (h : 0 ≤ s ∧ s ≤ 1) : Has Tryz.prog 60 [iA s] (iA (1 - s)) noTok := by
  refine fnX mixed ⟨[0, 2], [], [], [], []⟩ Tryz.func60 rfl rfl rfl (by kernel_rfl) rfl ?_
  simp
  exact wrap64 (by omega) (by omega)
theorem literal_h (l : LitD) (s : Int) : Hs Tryz.prog 63 [.agg (litCs l), iA s] [] (.ref 2000 0) [] [(2000, .box 170 (treeCs 5 (s == 1) l [] (.imm (.pointer none))))] := by
  refine hsX mixed ⟨[0, 1, 2, 4], [2, 9], [], [], []⟩ [] [] [.slot 4 2000] Tryz.func63 rfl rfl rfl (by kernel_rfl) rfl ?_
  simp [treeCs, litCs, strsA, intsA]
def leftF (drop : Int) (kids : List Tr) (i : Nat) : List Tr := (kids.take i).filter fun t => decide (t.kind ≠ drop)
theorem left_next {drop : Int} {kids : List Tr} {i : Nat} {t : Tr} (h : kids[i]? = some t) : leftF drop kids (i + 1) = leftF drop kids i ++ if t.kind = drop then [] else [t] := by
  simp only [leftF, List.take_add_one, h, Option.toList_some, List.filter_append, List.filter_cons, List.filter_nil]
  by_cases e : t.kind = drop <;> simp [e]
theorem left_le (drop : Int) (kids : List Tr) (i : Nat) : (leftF drop kids i).length ≤ kids.length := by
  refine Nat.le_trans (List.length_filter_le _ _) ?_
  simp
  omega
set_option maxHeartbeats 1000000 in
theorem joined_h (kind : Int) (kids : List Tr) (hl : kids.length ≤ 100000) : Has Tryz.prog 61 [iA kind, .sl (kids.map fun t => [treeA t])] (treeA (joinF kind kids)) noTok := by
  refine fnX mixed ⟨[0, 1, 4, 5, 6, 7, 9, 11, 12, 13, 14, 15, 23, 32, 39, 40, 45], [7, 26, 35, 36, 44, 53], [], [], []⟩ Tryz.func61 rfl rfl rfl (by kernel_rfl) (by simp) ?_
  simp
  obtain ⟨drop, hd⟩ : ∃ d : Int, d = if kind = 4 then 2 else 1 := ⟨_, rfl⟩
  obtain ⟨win, hw⟩ : ∃ d : Int, d = if kind = 4 then 1 else 2 := ⟨_, rfl⟩
  have hJ : joinF kind kids = if kids.any (fun t => decide (t.kind = win)) then .leaf win else
      match leftF drop kids kids.length with
      | [] => .leaf drop
      | [t] => t
      | l => .mk kind false .zero l none := by
    simp only [joinF, ← hd, ← hw, leftF, List.take_length]
    rfl
  refine ⟨fun hk => ?_, fun hk => ?_⟩
  all_goals
    simp [hk] at hd hw
    refine wF_loop [.slot 7 7 99] [.slot 7 7] [0, 1, 4, 5, 6, 7, 12, 13, 14] (fun i : Nat => St.asc [(0, iA kind), (1, .sl (kids.map fun t => [treeA t])), (4, .imm (.pointer none)), (5, iA drop), (6, iA win), (7, .rw 7 0 (leftF drop kids i).length), (12, .sl (kids.map fun t => [treeA t])), (13, iA kids.length), (14, iA i)]
      [(7, .row 99 ((leftF drop kids i).map fun t => [treeA t]))] [(7, true)] false) (fun i => i ≤ kids.length ∧ kids.any (fun t => decide (t.kind = win)) = (kids.drop i).any (fun t => decide (t.kind = win))) (fun i => kids.length - i) 0 _ (by simp) (by simp [leftF, hk, hd, hw]) (by simp) ?_
    rintro i ⟨hi, hno⟩
    by_cases h : i < kids.length
    · have hx : kids[i]? = some kids[i] := List.getElem?_eq_getElem h
      rw [List.drop_eq_getElem_cons h, List.any_cons] at hno
      have hL := left_next (drop := drop) hx
      have hle := left_le drop kids i
      generalize kids[i] = t at *
      have h1 : IntKind.i64.wrap ((i : Int) + 1) = (i : Int) + 1 := wrap64 (by omega) (by omega)
      have hlen : List.take (leftF drop kids i).length (List.map (fun t => [treeA t]) (leftF drop kids i)) = List.map (fun t => [treeA t]) (leftF drop kids i) := List.take_of_length_le (by simp)
      simp [hx, h, treeCs, h1, hlen, -getElem?_pos]
      refine ⟨fun hwin => ?_, fun hnw => ⟨fun hnd => ⟨⟨by omega, by omega⟩, i + 1, ?_, ⟨by omega, ?_⟩, by omega⟩, fun hdr => ⟨i + 1, ?_, ⟨by omega, ?_⟩, by omega⟩⟩⟩
      · rw [hJ, hno, if_pos (by simp [hwin]), leaf_cs]
        simp [treeCs, strsA, intsA, LitD.zero, TermD.zero, noText]
      · simp [hL, hnd]
      · rw [hno]; simp [hnw]
      · simp [hL, hdr]
      · rw [hno]; simp [hnw]
    · obtain rfl : i = kids.length := by omega
      have hlen : List.take (leftF drop kids kids.length).length (List.map (fun t => [treeA t]) (leftF drop kids kids.length)) = List.map (fun t => [treeA t]) (leftF drop kids kids.length) := List.take_of_length_le (by simp)
      rw [List.drop_length] at hno
      rw [hno] at hJ
      simp only [List.any_nil, Bool.false_eq_true, if_false] at hJ
      generalize leftF drop kids kids.length = L at *
      rcases L with _ | ⟨t, _ | ⟨t2, r⟩⟩
      · simp
        simp only [hJ]
        rw [leaf_cs]
        simp [treeCs, strsA, intsA, LitD.zero, TermD.zero, noText]
      · simp
        simp only [hJ]
      · have hr : List.take r.length (List.map (fun t => [treeA t]) r) = List.map (fun t => [treeA t]) r := List.take_of_length_le (by simp)
        simp [hr]
        refine ⟨fun h => by omega, fun _ => ⟨fun h => by omega, fun _ => ?_⟩⟩
        simp only [hJ]
        rw [tree_mk]
        simp [treeCs, strsA, intsA, LitD.zero, TermD.zero, noText, selA_none]
end Go.Proofs.YtldnkeackphilaaGreatDoor.X
/- norm.looker.list by the linear calculus. -/
namespace Go.Proofs.YtldnkeackphilaaGreatDoor.X
open Go.RowKit

set_option maxRecDepth 8000
set_option maxHeartbeats 2000000 in
theorem nList_h (lk : LookD) (l : List PartD) (hl : FitsL l) : Has Tryz.prog 36 [lookA lk, partsA l] (bA (listF l (!lk.node) lk.sels)) noTok := by
  refine fnX mixed ⟨[0, 1, 4, 5, 6, 7, 8, 9, 10, 13, 14, 15, 16, 17, 32, 40, 41, 42, 43, 54], [5, 7, 60, 61], [], [], []⟩ Tryz.func36 rfl rfl rfl (by kernel_rfl) rfl ?_
  obtain ⟨pods, hpods⟩ : ∃ b, b = !lk.node := ⟨_, rfl⟩
  have hse : ∀ free p, stepOk pods lk.sels free p = (nPartF lk p && decide (p.kids.length ≤ free.length) && (p.kids == free.drop (free.length - p.kids.length))) := fun free p => by
    rw [step_eq, hpods]; simp
  rw [← hpods]
  simp [partsA, lookA]
  refine ⟨fun h0 => by subst h0; rfl, fun h0 => ?_⟩
  refine wF_loop [.slot 5 5 3] [.slot 5 5] [0, 5, 14, 15, 16] (fun x : Nat × List Int => St.asc [(0, lookA lk), (5, .rw 5 0 x.2.length), (14, .sl (l.map partCs)), (15, iA l.length), (16, iA x.1)] [(5, .row 3 (x.2.map fun n => [iA n]))] [(5, true)] false)
    (fun x => x.1 ≤ l.length ∧ x.2.length ≤ x.1 ∧ freeF pods lk.sels (l.drop x.1) x.1 x.2 = freeF pods lk.sels l 0 []) (fun x => l.length - x.1) (0, []) _ (by simp) (by simp [lookA]) (by simp) ?_
  rintro ⟨i, free⟩ ⟨hi, hn, hm⟩
  have hlen := hl.len
  simp only at hi hn hm
  have hfr : List.take free.length (List.map (fun n => [iA n]) free) = List.map (fun n => [iA n]) free := List.take_of_length_le (by simp)
  by_cases h : i < l.length
  · have hx : l[i]? = some l[i] := List.getElem?_eq_getElem h
    have hf := hl.each l[i] (List.getElem_mem h)
    rw [drop_at hx, freeF] at hm
    obtain ⟨x, ex⟩ : ∃ x, x = l[i] := ⟨_, rfl⟩
    rw [← ex] at hx hf hm
    clear ex
    have h1 : IntKind.i64.wrap ((i : Int) + 1) = (i : Int) + 1 := wrap64 (by omega) (by omega)
    have hbad : stepOk pods lk.sels free x = false → listF l pods lk.sels = false := fun hb => by
      rw [hb] at hm
      simp only [listF, ← hm]
      rfl
    have h2 : IntKind.i64.wrap ((free.length : Int) - x.kids.length) = (free.length : Int) - x.kids.length := by
      have := hf.2
      exact wrap64 (by omega) (by omega)
    simp [hx, h, partCs, strsA, intsA, lookA, -getElem?_pos]
    refine callP_of (nPart_h lk x hf.1) (by simp) (by simp) ?_
    simp [h2, -getElem?_pos]
    refine ⟨fun hb => hbad ?_, fun b1 b2 => ?_⟩
    · rw [hse]
      rcases hb with hb | hb
      · simp [hb]
      · have : ¬ x.kids.length ≤ free.length := by omega
        simp [this]
    have hk := hf.2
    refine wF_loop [] [.slot 5 5, .slot 7 7] [0, 5, 6, 7, 8, 14, 15, 16, 40, 41, 42] (fun j : Nat => St.asc [(0, lookA lk), (5, .rw 5 0 free.length), (6, iA i), (7, .ref 7 0), (8, iA ((free.length : Int) - x.kids.length)), (14, .sl (l.map partCs)), (15, iA l.length), (16, iA i), (40, .sl (x.kids.map fun n => [iA n])), (41, iA x.kids.length), (42, iA j)] [(5, .row 3 (free.map fun n => [iA n])), (7, .box 63 (partCs x))] [(5, true), (7, true)] false)
      (fun j => j ≤ x.kids.length ∧ x.kids.take j = (free.drop (free.length - x.kids.length)).take j) (fun j => x.kids.length - j) 0 _ (by simp) (by simp [h2, partCs, strsA, intsA, lookA]) (by simp) ?_
    rintro j ⟨hj, hjm⟩
    by_cases hjl : j < x.kids.length
    · have hy : x.kids[j]? = some x.kids[j] := List.getElem?_eq_getElem hjl
      have hz : free[free.length - x.kids.length + j]? = some free[free.length - x.kids.length + j] := List.getElem?_eq_getElem (by omega)
      obtain ⟨y, ey⟩ : ∃ y, y = x.kids[j] := ⟨_, rfl⟩
      obtain ⟨z, ez⟩ : ∃ z, z = free[free.length - x.kids.length + j] := ⟨_, rfl⟩
      rw [← ey] at hy
      rw [← ez] at hz
      have h3 : IntKind.i64.wrap ((free.length : Int) - x.kids.length + j) = (free.length : Int) - x.kids.length + j := wrap64 (by omega) (by omega)
      have h4 : ((free.length : Int) - x.kids.length + j).toNat = free.length - x.kids.length + j := by omega
      have h5 : IntKind.i64.wrap ((j : Int) + 1) = (j : Int) + 1 := wrap64 (by omega) (by omega)
      have hzd : (free.drop (free.length - x.kids.length))[j]? = some z := by rw [List.getElem?_drop]; exact hz
      simp [partCs, strsA, intsA, lookA, hjl, hy, hz, hfr, h3, h4, h5, -getElem?_pos]
      refine ⟨⟨by omega, by omega⟩, by omega, fun hne => hbad ?_, fun he => ⟨j + 1, rfl, ⟨by omega, ?_⟩, by omega⟩⟩
      · have : (x.kids == free.drop (free.length - x.kids.length)) = false := by
          rw [Bool.eq_false_iff]
          intro hc
          have hc := eq_of_beq hc
          rw [← hc, hy] at hzd
          injection hzd with hzd
          exact hne hzd
        rw [hse, this, Bool.and_false]
      · rw [List.take_add_one, List.take_add_one, hjm, hy, hzd, he]
    · have : j = x.kids.length := by omega
      subst this
      have h6 : ((free.length : Int) - x.kids.length).toNat = free.length - x.kids.length := by omega
      have hkd : x.kids = free.drop (free.length - x.kids.length) := by
        rw [List.take_length, List.take_of_length_le (by rw [List.length_drop]; omega)] at hjm
        exact hjm
      have hgood : stepOk pods lk.sels free x = true := by
        rw [hse, ← hkd]
        simp [b1, b2]
      rw [if_pos hgood] at hm
      simp [partCs, strsA, intsA, lookA, h1, h6, hfr, -getElem?_pos]
      refine ⟨⟨by omega, by omega⟩, ⟨by omega, by omega⟩, i + 1, stepF free i x, ?_, ⟨by omega, by simp [stepF]; omega, hm⟩, by omega⟩
      simp [stepF]
  · have : i = l.length := by omega
    subst this
    rw [List.drop_length] at hm
    simp
    rw [listF, ← hm]
    simp [freeF]
    rw [Bool.eq_iff_iff]
    simp
    omega
end Go.Proofs.YtldnkeackphilaaGreatDoor.X
/- berthlaw16's readers of plans: sized, next, alone. -/
namespace Go.Proofs.YtldnkeackphilaaGreatDoor.X
open Go.RowKit

set_option maxRecDepth 8000
theorem wtL_take (l : List PartD) {i : Nat} {x : PartD} (hx : l[i]? = some x) : wtL (l.take (i + 1)) = wtL (l.take i) + partWt x := by
  rw [List.take_add_one, hx]
  simp [wtL]
theorem wtL_le (l : List PartD) (hl : FitsL l) (C : Nat) (hC : 70368744176129 ≤ C) (i : Nat) : wtL (l.take i) ≤ i * C := by
  induction i with
  | zero => simp [wtL]
  | succ i ih =>
    rw [Nat.succ_mul]
    generalize i * C = m at *
    rcases hx : l[i]? with _ | x
    · have : l.take (i + 1) = l.take i := by rw [List.take_add_one, hx]; simp
      rw [this]
      omega
    · rw [wtL_take l hx]
      have hf := hl.each x (List.mem_of_getElem? hx)
      have := hf.1.1
      have := hf.1.2
      simp only [partWt]
      omega
theorem sized_h (l : List PartD) (hl : FitsL l) (hsm : l.length ≤ 100000) : Has Tryz.prog 21 [partsA l] (iA (wtL l)) noTok := by
  refine fnX mixed ⟨[0, 2, 3, 4, 10], [], [], [], []⟩ Tryz.func21 rfl rfl rfl (by kernel_rfl) rfl ?_
  simp [partsA]
  refine wF_loop [] [] [0, 3, 4] (fun x : Nat × Nat => St.asc [(0, .sl (l.map partCs)), (3, iA x.2), (4, iA x.1)] [] [] false) (fun x => x.1 ≤ l.length ∧ x.2 + x.1 = l.length + wtL (l.take x.1)) (fun x => l.length - x.1) (0, l.length) _ (by simp) (by simp) (by simp [wtL]) ?_
  rintro ⟨i, n⟩ ⟨hi, hn⟩
  simp only at hi hn
  have hw := wtL_le l hl 70368744176129 (Nat.le_refl _) i
  have hw2 : i * 70368744176129 ≤ 100000 * 70368744176129 := Nat.mul_le_mul_right _ (by omega)
  by_cases h : i < l.length
  · have hx : l[i]? = some l[i] := List.getElem?_eq_getElem h
    have hf := hl.each l[i] (List.getElem_mem h)
    have ht := wtL_take l hx
    generalize l[i] = x at *
    have f1 := hf.1.1
    have f2 := hf.1.2
    simp only [partWt] at ht
    have h1 : IntKind.i64.wrap ((i : Int) + 1) = (i : Int) + 1 := wrap64 (by omega) (by omega)
    have h2 : IntKind.i64.wrap ((x.lit.texts.length : Int) + x.lit.nums.length) = (x.lit.texts.length : Int) + x.lit.nums.length := wrap64 (by omega) (by omega)
    have h3 : IntKind.i64.wrap ((n : Int) + (x.lit.texts.length + x.lit.nums.length)) = (n : Int) + (x.lit.texts.length + x.lit.nums.length) := wrap64 (by omega) (by omega)
    simp [hx, h, partCs, strsA, intsA, h1, h2, h3, -getElem?_pos]
    refine ⟨i + 1, n + (x.lit.texts.length + x.lit.nums.length), ?_, ⟨by omega, by omega⟩, by omega⟩
    simp
  · obtain rfl : i = l.length := by omega
    rw [List.take_length] at hn
    simp
    omega
def nextF (l : LitD) (at_ : Int) : Bool × Bool := if l.kind = 7 then (true, l.sel == at_) else if l.term.kind = 6 then (true, l.term.sel == at_) else (false, true)
theorem next_h (l : LitD) (at_ : Int) : Has Tryz.prog 23 [.agg (litCs l), iA at_] (.tup [bA (nextF l at_).1, bA (nextF l at_).2]) noTok := by
  refine fnX mixed ⟨[0, 1, 2, 4, 5, 8, 16], [2], [(2, [2]), (9, [2]), (17, [2]), (18, [2])], [], []⟩ Tryz.func23 rfl rfl rfl (by kernel_rfl) rfl ?_
  simp [litCs]
  refine ⟨fun h => ?_, fun h => ⟨fun h2 => ?_, fun h2 => ?_⟩⟩
  · simp [nextF, h]
  · simp [nextF, h, h2]
  · simp [nextF, h, h2]
def standP (n : Nat) (p : PartD) : Bool := !decide ((p.kind = 1 ∨ p.kind = 2) ∧ n > 1) && !(p.neg && decide (p.kind ≠ 5)) && !decide (p.lit.kind = 2 ∧ p.lit.rel ≠ 4 ∧ p.lit.rel ≠ 6) && !decide (p.lit.kind = 3 ∧ p.lit.rel = 2)
def aloneF (l : List PartD) : Bool := l.all (standP l.length)
theorem alone_h (l : List PartD) (hl : FitsL l) : Has Tryz.prog 22 [partsA l] (bA (aloneF l)) noTok := by
  refine fnX mixed ⟨[0, 2, 3, 4, 8, 27, 34, 50, 60], [4], [], [], []⟩ Tryz.func22 rfl rfl rfl (by kernel_rfl) rfl ?_
  have hlen := hl.len
  simp [partsA]
  refine wF_loop [] [] [0, 3] (fun i : Nat => St.asc [(0, .sl (l.map partCs)), (3, iA i)] [] [] false) (fun i => i ≤ l.length ∧ (l.take i).all (standP l.length) = true) (fun i => l.length - i) 0 _ (by simp) (by simp) (by simp) ?_
  rintro i ⟨hi, hn⟩
  by_cases h : i < l.length
  · have hx : l[i]? = some l[i] := List.getElem?_eq_getElem h
    have hm := List.getElem_mem h
    have htk : (l.take (i + 1)).all (standP l.length) = ((l.take i).all (standP l.length) && standP l.length l[i]) := by
      rw [List.take_add_one, hx, List.all_append]
      simp only [Option.toList, List.all_cons, List.all_nil, Bool.and_true]
    generalize l[i] = x at *
    have hbad : standP l.length x = false → aloneF l = false := fun hb => by
      rw [aloneF, Bool.eq_false_iff]
      intro hc
      have := List.all_eq_true.1 hc x hm
      rw [hb] at this
      cases this
    have h1 : IntKind.i64.wrap ((i : Int) + 1) = (i : Int) + 1 := wrap64 (by omega) (by omega)
    simp [hx, h, partCs, h1, -getElem?_pos]
    refine ⟨fun a b => hbad ?_, fun c1 => ⟨fun a b => hbad ?_, fun c2 => ⟨fun a b c => hbad ?_, fun c3 => ⟨fun a b => hbad ?_, fun c4 => ⟨i + 1, by simp, ⟨by omega, ?_⟩, by omega⟩⟩⟩⟩⟩
    · have : 1 < l.length := by omega
      simp [standP, a, this]
    · simp [standP, a, b]
    · simp [standP, a, b, c]
    · simp [standP, a, b]
    · have hok : standP l.length x = true := by
        simp only [standP, Bool.and_eq_true, Bool.not_eq_true', Bool.and_eq_false_iff, decide_eq_false_iff_not]
        refine ⟨⟨⟨fun h => by have := c1 h.1; omega, ?_⟩, fun h => ?_⟩, fun h => c4 h.1 h.2⟩
        · by_cases hng : x.neg = true
          · exact .inr (by simp [c2 hng])
          · exact .inl (by simpa using hng)
        · exact h.2.2 (c3 h.1 h.2.1)
      rw [hn, hok, Bool.and_true] at htk
      exact List.all_eq_true.1 htk
  · obtain rfl : i = l.length := by omega
    rw [List.take_length] at hn
    simp
    exact hn
end Go.Proofs.YtldnkeackphilaaGreatDoor.X
/- norm.measured by the linear calculus. -/
namespace Go.Proofs.YtldnkeackphilaaGreatDoor.X
open Go.RowKit

def walkF : List PartD → Nat → Nat
  | [], m => m
  | p :: l, m => if 1000 < m then m else walkF l (m + (p.lit.texts.length + p.lit.nums.length))
set_option maxRecDepth 8000
set_option maxHeartbeats 1000000 in
theorem add_h (l : List PartD) (hl : FitsL l) (n : Nat) (hn : n ≤ 1000000000) : Hs Tryz.prog 57 [partsA l, .ref 1000 0] [(1000, .box 3 [iA n])] (bA (decide (walkF l (n + l.length) ≤ 1000))) [1000] [(1000, .box 3 [iA (walkF l (n + l.length))])] := by
  refine hsX mixed ⟨[0, 1, 3, 5, 10, 11, 12, 13, 17], [1000, 5], [], [], [1000]⟩ [] [] [.keep 1000] Tryz.func57 rfl rfl rfl (by kernel_rfl) rfl ?_
  have hlen := hl.len
  have hw0 : IntKind.i64.wrap ((n : Int) + l.length) = (n : Int) + l.length := wrap64 (by omega) (by omega)
  simp [partsA, hw0]
  refine wF_loop [] [.keep 1000] [1, 10, 11, 12] (fun x : Nat × Nat => St.asc [(1, .ref 1000 0), (10, .sl (l.map partCs)), (11, iA l.length), (12, iA x.1)] [(1000, .box 3 [iA x.2])] [(1000, true)] false)
    (fun x => x.1 ≤ l.length ∧ x.2 ≤ 1000000000 + 4398046511104 + 1000 + 70368744176129 ∧ walkF (l.drop x.1) x.2 = walkF l (n + l.length)) (fun x => l.length - x.1) (0, n + l.length) _ (by simp) (by simp) (by simp; omega) ?_
  rintro ⟨i, m⟩ ⟨hi, hm, hr⟩
  simp only at hi hm hr
  by_cases h : i < l.length
  · have hx : l[i]? = some l[i] := List.getElem?_eq_getElem h
    have hf := (hl.each l[i] (List.getElem_mem h)).1
    rw [drop_at hx, walkF] at hr
    obtain ⟨x, ex⟩ : ∃ x, x = l[i] := ⟨_, rfl⟩
    rw [← ex] at hx hf hr
    clear ex
    have h1 : IntKind.i64.wrap ((i : Int) + 1) = (i : Int) + 1 := wrap64 (by omega) (by omega)
    have f1 := hf.1
    have f2 := hf.2
    have h2 : IntKind.i64.wrap ((x.lit.texts.length : Int) + x.lit.nums.length) = (x.lit.texts.length : Int) + x.lit.nums.length := wrap64 (by omega) (by omega)
    have h3 : IntKind.i64.wrap ((m : Int) + ((x.lit.texts.length : Int) + x.lit.nums.length)) = (m : Int) + ((x.lit.texts.length : Int) + x.lit.nums.length) := wrap64 (by omega) (by omega)
    simp [hx, h, partCs, strsA, intsA, h1, h2, h3, -getElem?_pos]
    refine ⟨fun hb => ?_, fun hb => ⟨i + 1, m + (x.lit.texts.length + x.lit.nums.length), by simp, ⟨by omega, by omega, ?_⟩, by omega⟩⟩
    · rw [if_pos (by omega)] at hr
      rw [← hr]
      exact ⟨by omega, rfl⟩
    · rw [if_neg (by omega)] at hr
      exact hr
  · have : i = l.length := by omega
    subst this
    rw [List.drop_length, walkF] at hr
    rw [← hr]
    simp
    omega
end Go.Proofs.YtldnkeackphilaaGreatDoor.X
/- norm.measured, whole. -/

namespace Go.Proofs.YtldnkeackphilaaGreatDoor.X
open Go.RowKit

theorem walk_le : ∀ (l : List PartD) (m : Nat), (walkF l m ≤ 1000 ↔ m + (l.map fun p => p.lit.texts.length + p.lit.nums.length).sum ≤ 1000) ∧ (walkF l m ≤ 1000 → walkF l m = m + (l.map fun p => p.lit.texts.length + p.lit.nums.length).sum)
  | [], m => by simp [walkF]
  | p :: l, m => by
    have ih := walk_le l (m + (p.lit.texts.length + p.lit.nums.length))
    rw [walkF]
    simp only [List.map_cons, List.sum_cons]
    split
    · constructor
      · constructor <;> intro h <;> omega
      · intro h; omega
    · constructor
      · rw [ih.1]; omega
      · intro h; rw [ih.2 h]; omega
theorem wtL_sum : ∀ l : List PartD, wtL l = l.length + (l.map fun p => p.lit.texts.length + p.lit.nums.length).sum
  | [] => by simp [wtL]
  | p :: l => by
    have := wtL_sum l
    simp only [wtL, List.map_cons, List.sum_cons, List.length_cons, partWt] at *
    omega
theorem walk_wt (l : List PartD) (n : Nat) : (walkF l (n + l.length) ≤ 1000 ↔ n + wtL l ≤ 1000) ∧ (walkF l (n + l.length) ≤ 1000 → walkF l (n + l.length) = n + wtL l) := by
  have := walk_le l (n + l.length)
  rw [wtL_sum]
  constructor
  · rw [this.1]; omega
  · intro h; rw [this.2 h]; omega
set_option maxRecDepth 8000
set_option maxHeartbeats 1000000 in
theorem measured_h (p : PlanD) (hp : FitsP p) : Has Tryz.prog 35 [.agg (planCs p)] (bA (decide (wtL p.main + wtP p.sels ≤ 1000))) noTok := by
  refine fnX mixed ⟨[0, 1, 2, 3, 4, 6, 12, 14, 15, 16, 17, 23], [1, 3], [], [], []⟩ Tryz.func35 rfl rfl rfl (by kernel_rfl) rfl ?_
  have hA := add_h p.main hp.main 0 (by omega)
  have hw := walk_wt p.main 0
  rw [Nat.zero_add] at hA hw
  unfold partsA at hA
  obtain ⟨m, em⟩ : ∃ m, m = walkF p.main p.main.length := ⟨_, rfl⟩
  rw [← em] at hA hw
  simp [planCs, partsA, selsA]
  refine callH_of [(1000, 3)] [] hA (by simp) (by simp) (by simp) ?_
  simp
  have hlen := hp.len
  refine ⟨fun hb => by omega, fun hb => ?_⟩
  refine wF_loop [] [.slot 3 3] [3, 4, 14, 15, 16] (fun x : Nat × Nat => St.asc [(3, .ref 3 0), (4, .fnc 57 [.ref 3 0]), (14, .sl (p.sels.map fun x => [.sl (x.map partCs)])), (15, iA p.sels.length), (16, iA x.1)] [(3, .box 3 [iA x.2])] [(3, true)] false)
    (fun x => x.1 ≤ p.sels.length ∧ x.2 ≤ 1000 ∧ x.2 + wtP (p.sels.drop x.1) = wtL p.main + wtP p.sels) (fun x => p.sels.length - x.1) (0, m) _ (by simp) (by simp) (by simp; omega) ?_
  rintro ⟨i, k⟩ ⟨hi, hk, hr⟩
  simp only at hi hk hr
  by_cases h : i < p.sels.length
  · have hx : p.sels[i]? = some p.sels[i] := List.getElem?_eq_getElem h
    have hf := hp.each p.sels[i] (List.getElem_mem h)
    rw [drop_at hx] at hr
    have hcons : ∀ (y : List PartD) (r : List (List PartD)), wtP (y :: r) = wtL y + wtP r := fun y r => by simp [wtP]
    rw [hcons] at hr
    obtain ⟨x, ex⟩ : ∃ x, x = p.sels[i] := ⟨_, rfl⟩
    rw [← ex] at hx hf hr
    clear ex
    have h1 : IntKind.i64.wrap ((i : Int) + 1) = (i : Int) + 1 := wrap64 (by omega) (by omega)
    have hB := add_h x hf k (by omega)
    have hv := walk_wt x k
    unfold partsA at hB
    obtain ⟨j, ej⟩ : ∃ j, j = walkF x (k + x.length) := ⟨_, rfl⟩
    rw [← ej] at hB hv
    simp [hx, h, -getElem?_pos]
    refine callH_of [(1000, 3)] [] hB (by simp) (by simp) (by simp) ?_
    simp [h1]
    refine ⟨fun hb => by omega, fun hb => ⟨i + 1, j, by simp, ⟨by omega, hb, ?_⟩, by omega⟩⟩
    have := hv.2 hb
    omega
  · have : i = p.sels.length := by omega
    subst this
    rw [List.drop_length] at hr
    simp [wtP] at hr ⊢
    apply decide_eq_true
    omega
end Go.Proofs.YtldnkeackphilaaGreatDoor.X
/- norm's functions by the linear calculus: comparisons. -/
namespace Go.Proofs.YtldnkeackphilaaGreatDoor.X
open Go.RowKit

set_option maxRecDepth 8000
theorem turned_h (c : Int) : Has Tryz.prog 103 [iA c] (iA (turnF c)) noTok := by
  refine fnX mixed ⟨[0, 2, 3, 4, 6, 8, 10], [], [], [], []⟩ Tryz.func103 rfl rfl rfl (by kernel_rfl) rfl ?_
  simp
  refine ⟨?_, fun h1 => ⟨?_, fun h2 => ⟨?_, fun h3 => ⟨?_, ?_⟩⟩⟩⟩ <;> intro h <;> simp_all [turnF]
theorem text_eq (a b : ByteArray) : (a.toList = b.toList) ↔ a = b := ⟨fun h => data_inj (by rw [← Lib.toList_data, ← Lib.toList_data]; exact h), fun h => h ▸ rfl⟩
theorem stands_h (a b : OpdD) (c : Int) : Has Tryz.prog 101 [.agg a.cs, .agg b.cs, iA c] (bA (standsF a b c)) noTok := by
  refine fnX mixed ⟨[0, 1, 2, 3, 4, 6, 7, 8, 22, 29, 36], [3, 4], [], [], []⟩ Tryz.func101 rfl rfl rfl (by kernel_rfl) rfl ?_
  simp [OpdD.cs, text_eq]
  refine ⟨?_, fun h1 => ⟨?_, fun h2 => ⟨?_, fun h3 => ⟨?_, ?_⟩⟩⟩⟩ <;> intro h <;> simp_all [standsF] <;> rfl
@[simp] theorem lit_refsL (l : LitD) : refsL (litCs l) = [] := by simp [litCs, strsA, intsA]
@[simp] theorem tree_refsL (k : Int) (n : Bool) (l : LitD) (kids : List Tr) (sel : AV) : refsL (treeCs k n l kids sel) = refsA sel := by simp [treeCs, strsA, intsA]
theorem near_h (p : Part) (k : Int) (r : List Int) (hk : p.kids = k :: r) (ps : List Part) (s : Int) (T : Tr) (hT : Has Tryz.prog 38 [mkA ps, iA k, iA 0] (treeA T) noTok) :
    Has Tryz.prog 62 [mkA ps, .agg (pCs p), iA s] (treeA (if T.kind = 2 then truthF false s else .lit { LitD.zero with kind := 7, key := p.text } s (some T))) noTok := by
  refine fnX mixed ⟨[0, 1, 2, 4, 6, 7, 8, 19], [4, 26], [], [], []⟩ Tryz.func62 rfl rfl rfl (by kernel_rfl) (by simp) ?_
  simp [pCs, hk, intsA, psA, mkA]
  refine callP_of hT (by simp) (by simp) ?_
  simp [treeCs]
  refine ⟨fun h => ?_, fun h => ?_⟩
  · refine callP_of (truth_h false s) (by simp) (by simp) ?_
    simp [h]
  · refine callH_of [] [(2000, 26)] (literal_h { LitD.zero with kind := 7, key := p.text } s) (by simp [litCs, LitD.zero, TermD.zero, noText, strsA, intsA]) (by simp) (by simp) ?_
    simp [treeCs, strsA, intsA]
    simp [h, Tr.lit, tree_mk, treeCs, selA_some, strsA, intsA]
theorem against_h (t c : OpdD) (cmp s : Int) (hn : -1000000000000000000 ≤ c.n ∧ c.n ≤ 1000000000000000000) : Has Tryz.prog 102 [.agg t.cs, .agg c.cs, iA cmp, iA s] (treeA (againstF t c cmp s)) noTok := by
  refine fnX mixed ⟨[0, 1, 2, 3, 4, 5, 8, 9, 10, 16, 17, 23, 32, 35, 38, 45], [4, 5, 9, 26, 30, 54], [(5, [5]), (9, [9]), (40, [5]), (43, [9]), (44, [9]), (47, [5]), (50, [9]), (51, [9])], [(16, [26, 30])], []⟩ Tryz.func102 rfl rfl rfl (by kernel_rfl) (by simp) ?_
  have w1 : IntKind.i64.wrap (c.n - 1) = c.n - 1 := wrap64 (by omega) (by omega)
  have w2 : IntKind.i64.wrap (c.n + 1) = c.n + 1 := wrap64 (by omega) (by omega)
  simp [OpdD.cs, w1, w2]
  refine ⟨fun h1 => ⟨fun hn => ?_, fun hn => ?_⟩, fun h1 => ⟨fun h2 => ?_, fun h2 => ⟨fun h3 => ?_, fun h3 => ⟨fun h4 => ?_, fun h4 => ⟨fun h5 => ?_, fun h5 => ?_⟩⟩⟩⟩⟩
  all_goals
    refine callH_of [] [(2000, 54)] (literal_h (againstL t c cmp) s) (by simp [*, againstL, litCs, LitD.zero, TermD.zero, noText, strsA, intsA]) (by simp) (by simp) ?_
    simp [treeCs, strsA, intsA]
    simp [againstF, Tr.lit, tree_mk, treeCs, strsA, intsA]
end Go.Proofs.YtldnkeackphilaaGreatDoor.X
/- norm's functions by the linear calculus: operands. -/
namespace Go.Proofs.YtldnkeackphilaaGreatDoor.X
open Go.RowKit

set_option maxRecDepth 8000
theorem has_same {P : Program} {f : FuncId} {fn : Func} {c : Code} {args : List AV} {a : AV} (hf : P.funcs[f]? = some fn) (hb : fn.body = some c) (hn : (fn.name == "runtime.NumGoroutine") = false) (ha : a.final = true)
    (h : ∀ G w (vals : Array Value), vals.size = args.length → (∀ (i : Nat) v b, vals[i]? = some v → args[i]? = some b → RS G v b) → ∃ v, (Calls P f vals w fun e w' => e = .returned v ∧ w' = w) ∧ RS G v a) : Has P f args a noTok := by
  refine ⟨ha, fun vals w => enters_of hf hb hn vals w, fun G w vals hc hl hv => ?_⟩
  obtain ⟨v, h1, h2⟩ := h G w vals hl hv
  refine h1.mono ?_
  rintro e w' ⟨rfl, rfl⟩
  refine ⟨v, G, noOm, rfl, ⟨⟨rfl, hc, fun g p hp => (by cases hp), fun t => ?_, fun t k E hE => ?_⟩, fun t k E hE => ?_⟩, .refl _ _ _⟩
  · by_cases ht : t = 0
    · subst ht
      exact .sh h2
    · have : (Go.Proofs.YtldnkeackphilaaGreatDoor.St.one a noTok).val t = .dead := by simp [Go.Proofs.YtldnkeackphilaaGreatDoor.St.one, ht]
      rw [this]
      exact .dead _
  · simp [Go.Proofs.YtldnkeackphilaaGreatDoor.St.one, noTok] at hE
  · simp [Go.Proofs.YtldnkeackphilaaGreatDoor.St.one, noTok] at hE
theorem int_h (s : ByteArray) (hs : s.size ≤ 9223372036854775807) : Has Tryz.prog 167 [sA s] (.tup [iA ((intF s).getD 0), bA (intF s).isSome]) noTok := by
  refine has_same Tryz.func167 rfl rfl rfl fun G w vals hl hv => ?_
  obtain ⟨l⟩ := vals
  match l, hl with
  | [v], _ =>
    have h0 := hv 0 v (sA s) rfl rfl
    cases h0
    refine ⟨_, int_c s w hs, .tup _ _ rfl fun j v a h1 h2 => ?_⟩
    match j with
    | 0 => cases h1; cases h2; exact .imm _ rfl
    | 1 => cases h1; cases h2; exact .imm _ rfl
    | j + 2 => simp at h1
set_option maxHeartbeats 1000000 in
theorem operand_h (ps : List Part) (c : Int → Int → Tr) (k : Nat) (p : Part) (hp : ps[k]? = some p) (hs : sideK p.kind)
    (h20 : p.kind = 20 → ∃ (i : Int) (r : List Int), p.kids = i :: r ∧ Has Tryz.prog 38 [mkA ps, iA i, iA 0] (treeA (c i 0)) noTok)
    (h19 : p.kind = 19 → ∃ (i : Nat) (r : List Int) (q : Part), p.kids = (i : Int) :: r ∧ ps[i]? = some q ∧ q.text.size ≤ 1000) :
    Has Tryz.prog 100 [mkA ps, iA k] (.agg (opdF c ps k).cs) noTok := by
  refine fnX mixed ⟨[0, 1, 4, 5, 6, 7, 8, 9, 20, 21, 26, 31, 38, 43, 49, 73, 87], [4, 5, 7], [(4, [4]), (5, [5]), (7, [7]), (51, [5]), (55, [5]), (65, [5])], [], []⟩ Tryz.func100 rfl rfl rfl (by kernel_rfl) (by simp [OpdD.cs]) ?_
  have hl : k < ps.length := (List.getElem?_eq_some_iff.1 hp).1
  have hg : ps[k] = p := by simpa [List.getElem?_eq_getElem hl] using hp
  have hF : opdF c ps k = opdOf c ps p := by simp [opdF, partAt_nat hp]
  rw [hF]
  rcases hs with h | h | h | h | h | h | h
  · simp [mkA, psA, hp, hl, pCs, h, opdOf, OpdD.cs, TermD.zero, noText, selA_none, -getElem?_pos]
  · simp [mkA, psA, hp, hl, pCs, h, opdOf, OpdD.cs, TermD.zero, noText, selA_none, -getElem?_pos]
  · simp [mkA, psA, hp, hl, pCs, h, opdOf, OpdD.cs, TermD.zero, noText, selA_none, -getElem?_pos]
  · simp [mkA, psA, hp, hl, pCs, h, opdOf, OpdD.cs, TermD.zero, noText, selA_none, -getElem?_pos]
  · simp [mkA, psA, hp, hl, pCs, h, opdOf, OpdD.cs, TermD.zero, noText, selA_none, -getElem?_pos]
  · obtain ⟨i, r, hk, hc⟩ := h20 h
    simp [mkA, psA, hp, hl, pCs, h, opdOf, OpdD.cs, TermD.zero, noText, selA_none, hk, intsA, hg]
    refine callP_of hc (by simp) (by simp) ?_
    simp [selA_some]
  · obtain ⟨i, r, q, hk, hq, ht⟩ := h19 h
    have hql : i < ps.length := (List.getElem?_eq_some_iff.1 hq).1
    have hqg : ps[i] = q := by simpa [List.getElem?_eq_getElem hql] using hq
    have hqq : partAt ps i = q := partAt_nat hq
    simp [mkA, psA, hp, hl, pCs, h, opdOf, OpdD.cs, TermD.zero, noText, selA_none, hk, intsA, hq, hql, hqq, hqg, hg]
    refine ⟨fun h14 => by simp [h14, selA_none], fun h14 => ?_⟩
    refine callP_of (int_h q.text (by omega)) (by simp) (by simp) ?_
    rcases hi : intF q.text with _ | n <;> simp [h, hk, hqq, h14, hi, selA_none]
theorem keyTerm_h (ps : List Part) (k : Int) (x : OpdD) (hx : Has Tryz.prog 100 [mkA ps, iA k] (.agg x.cs) noTok) : Has Tryz.prog 104 [mkA ps, iA k] (.agg (termCs (keyTermF x))) noTok := by
  refine fnX mixed ⟨[0, 1, 4, 5, 11], [4, 5], [], [], []⟩ Tryz.func104 rfl rfl rfl (by kernel_rfl) rfl ?_
  simp [mkA, psA]
  refine callP_of hx (by simp) (by simp [OpdD.cs]) ?_
  simp [OpdD.cs]
  refine ⟨fun h => ?_, fun h => ?_⟩ <;> simp [keyTermF, h, termCs, noText]
end Go.Proofs.YtldnkeackphilaaGreatDoor.X
/- norm's functions by the linear calculus: a comparison. -/
namespace Go.Proofs.YtldnkeackphilaaGreatDoor.X
open Go.RowKit

set_option maxRecDepth 8000
def inR (x : OpdD) : Prop := -1000000000000000000 ≤ x.n ∧ x.n ≤ 1000000000000000000
def comparedY (a b : OpdD) (m s : Int) : Tr :=
  if a.step = 1 ∨ b.step = 1 then truthF false s
  else if a.step = 0 ∧ b.step = 0 then truthF (standsF a b m) s
  else if a.step = 0 then againstF b a (turnF m) s
  else if b.step = 0 then againstF a b m s
  else if a.term.side = 1 ∧ b.term.side ≠ 1 then .lit { LitD.zero with kind := 3, term := b.term, rel := turnF m, other := a.term } s b.sel
  else .lit { LitD.zero with kind := 3, term := a.term, rel := m, other := b.term } s a.sel
theorem comparedX_else (a b : OpdD) {n : Int} (h : ¬n = 2) (s : Int) : comparedX a b n s = comparedY a b n s := by simp only [comparedX, if_neg h]; rfl
set_option maxHeartbeats 2000000 in
theorem compared_aux (kind : Int) (text : ByteArray) (num i j : Int) (ps : List Part) (s : Int) (hs : 0 ≤ s ∧ s ≤ 1) (a b : OpdD) (ha : Has Tryz.prog 100 [mkA ps, iA i] (.agg a.cs) noTok) (hb : Has Tryz.prog 100 [mkA ps, iA j] (.agg b.cs) noTok) (ra : inR a) (rb : inR b) (res : Tr) (hr : Hid (res = comparedX a b num s)) :
    Has Tryz.prog 64 [mkA ps, .agg [iA kind, sA text, iA num, .sl [[iA i], [iA j]]], iA s] (treeA res) noTok := by
  refine fnX mixed ⟨[0, 1, 2, 4, 6, 7, 8, 9, 10, 14, 29, 40, 55, 65, 83], [4, 8, 9, 95], [(4, [4]), (8, [8]), (9, [9]), (18, [4]), (24, [4])], [], []⟩ Tryz.func64 rfl rfl rfl (by kernel_rfl) (by simp) ?_
  simp [psA, mkA]
  refine ⟨fun h2 => ?_, fun h2 => ?_⟩
  · refine callP_of (other_h s hs) (by simp) (by simp) ?_
    replace hr : Hid (res = comparedY a b 1 (1 - s)) := by rw [hr.out, h2]; rfl
    simp
    refine callP_of ha (by simp) (by simp [OpdD.cs]) ?_
    simp [OpdD.cs]
    refine callP_of hb (by simp) (by simp [OpdD.cs]) ?_
    simp [OpdD.cs]
    refine ⟨fun e1 => ?_, fun na nb => ⟨fun e2 e2' => ?_, fun e2 => ⟨fun e3 => ?_, fun e3 => ⟨fun e4 => ?_, fun e4 => ⟨fun e5 e5' => ?_, fun e5 => ?_⟩⟩⟩⟩⟩
    · refine callP_of (truth_h false _) (by simp) (by simp) ?_
      simp [hr.out, comparedY, e1]
    · refine callP_of (stands_h a b _) (by simp) (by simp) ?_
      simp
      refine callP_of (truth_h _ _) (by simp) (by simp) ?_
      simp [hr.out, comparedY, na, nb, e2, e2']
    · refine callP_of (turned_h _) (by simp) (by simp) ?_
      simp
      refine callP_of (against_h b a _ _ ra) (by simp) (by simp) ?_
      simp [hr.out, comparedY, na, nb, e3, e2 e3]
    · refine callP_of (against_h a b _ _ rb) (by simp) (by simp) ?_
      simp [hr.out, comparedY, na, nb, e3, e4]
    · refine callP_of (turned_h _) (by simp) (by simp) ?_
      simp
      refine callH_of [] [(2000, 95)] (literal_h { LitD.zero with kind := 3, term := b.term, rel := turnF 1, other := a.term } (1 - s)) (by simp [litCs, LitD.zero, TermD.zero, noText, strsA, intsA]) (by simp) (by simp) ?_
      simp [treeCs, strsA, intsA]
      simp [hr.out, comparedY, na, nb, e3, e4, e5, e5', Tr.lit, tree_mk, treeCs, strsA, intsA]
    · refine callH_of [] [(2000, 95)] (literal_h { LitD.zero with kind := 3, term := a.term, rel := 1, other := b.term } (1 - s)) (by simp [litCs, LitD.zero, TermD.zero, noText, strsA, intsA]) (by simp) (by simp) ?_
      simp [treeCs, strsA, intsA]
      simp [hr.out, comparedY, na, nb, e3, e4, Tr.lit, tree_mk, treeCs, strsA, intsA]
      rw [if_neg (by intro h; exact h.2 (e5 h.1)), tree_mk]
      simp [treeCs, strsA, intsA]
  · replace hr : Hid (res = comparedY a b num s) := by rw [hr.out, comparedX_else a b h2]; rfl
    refine callP_of ha (by simp) (by simp [OpdD.cs]) ?_
    simp [OpdD.cs]
    refine callP_of hb (by simp) (by simp [OpdD.cs]) ?_
    simp [OpdD.cs]
    refine ⟨fun e1 => ?_, fun na nb => ⟨fun e2 e2' => ?_, fun e2 => ⟨fun e3 => ?_, fun e3 => ⟨fun e4 => ?_, fun e4 => ⟨fun e5 e5' => ?_, fun e5 => ?_⟩⟩⟩⟩⟩
    · refine callP_of (truth_h false _) (by simp) (by simp) ?_
      simp [hr.out, comparedY, e1]
    · refine callP_of (stands_h a b _) (by simp) (by simp) ?_
      simp
      refine callP_of (truth_h _ _) (by simp) (by simp) ?_
      simp [hr.out, comparedY, na, nb, e2, e2']
    · refine callP_of (turned_h _) (by simp) (by simp) ?_
      simp
      refine callP_of (against_h b a _ _ ra) (by simp) (by simp) ?_
      simp [hr.out, comparedY, na, nb, e3, e2 e3]
    · refine callP_of (against_h a b _ _ rb) (by simp) (by simp) ?_
      simp [hr.out, comparedY, na, nb, e3, e4]
    · refine callP_of (turned_h _) (by simp) (by simp) ?_
      simp
      refine callH_of [] [(2000, 95)] (literal_h { LitD.zero with kind := 3, term := b.term, rel := turnF num, other := a.term } s) (by simp [litCs, LitD.zero, TermD.zero, noText, strsA, intsA]) (by simp) (by simp) ?_
      simp [treeCs, strsA, intsA]
      simp [hr.out, comparedY, na, nb, e3, e4, e5, e5', Tr.lit, tree_mk, treeCs, strsA, intsA]
    · refine callH_of [] [(2000, 95)] (literal_h { LitD.zero with kind := 3, term := a.term, rel := num, other := b.term } s) (by simp [litCs, LitD.zero, TermD.zero, noText, strsA, intsA]) (by simp) (by simp) ?_
      simp [treeCs, strsA, intsA]
      simp [hr.out, comparedY, na, nb, e3, e4, Tr.lit, tree_mk, treeCs, strsA, intsA]
      rw [if_neg (by intro h; exact h.2 (e5 h.1)), tree_mk]
      simp [treeCs, strsA, intsA]
end Go.Proofs.YtldnkeackphilaaGreatDoor.X
