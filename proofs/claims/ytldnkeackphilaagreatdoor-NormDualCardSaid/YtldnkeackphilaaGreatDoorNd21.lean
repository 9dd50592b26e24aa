/- norm.Valid's functions: rising rows, literals, parts. -/
import Derived.Test.YtldnkeackphilaaGreatDoorNd20
import Derived.Test.YtldnkeackphilaaGreatDoorNd13
import Derived.Test.YtldnkeackphilaaGreatDoorNd14
import Derived.Test.YtldnkeackphilaaGreatDoorNd18
import Derived.Test.YtldnkeackphilaaGreatDoorNd17
import Derived.Test.YtldnkeackphilaaGreatDoorNd19
set_option linter.unusedSimpArgs false
set_option linter.unusedVariables false
set_option linter.unusedSectionVars false
namespace Go.Proofs.YtldnkeackphilaaGreatDoor
open Go.RowKit

set_option maxRecDepth 8000

def nTextAt (l : List ByteArray) (i : Nat) : Bool := decide ((l.getD i noText).size ≤ 127) && !(decide (0 < i) && !(Op.bytesLess (l.getD (i - 1) noText).toList (l.getD i noText).toList))
def nTextsF (l : List ByteArray) : Bool := (List.range l.length).all (nTextAt l)
namespace X
theorem nTexts_h (l : List ByteArray) (hl : l.length ≤ 35184372088064) : Has Tryz.prog 158 [strsA l, .imm (.func (.func 159) #[] #[])] (bA (nTextsF l)) noTok := by
  refine fnX mixed ⟨[0, 1, 4, 5, 6, 7, 8, 9, 10, 30], [], [], [], []⟩ Tryz.func158 rfl rfl rfl (by kernel_rfl) rfl ?_
  simp [strsA]
  refine wF_loop [] [] [0, 1, 4, 7, 8, 9] (fun i : Nat => St.asc [(0, .sl (l.map fun s => [sA s])), (1, .imm (.func (.func 159) #[] #[])), (4, bA false), (7, .sl (l.map fun s => [sA s])), (8, iA l.length), (9, iA i)] [] [] false) (fun i => i ≤ l.length ∧ Upto (nTextAt l) i) (fun i => l.length - i) 0 _ (by simp) (by simp) (by simp [Upto.zero]) ?_
  rintro i ⟨hi, hok⟩
  by_cases h : i < l.length
  · have hx : l[i]? = some l[i] := List.getElem?_eq_getElem h
    obtain ⟨y, hy⟩ := ex_at (l := l) (i := i - 1) (by omega)
    generalize l[i] = x at *
    have hu : ((i : Int) - 1).toNat = i - 1 := by omega
    have ht : nTextAt l i = (decide (x.size ≤ 127) && !(decide (0 < i) && !(Op.bytesLess y.toList x.toList))) := by simp [nTextAt, hy, hx]
    simp [hx, hy, h, wrapN (Nat.le_trans hi hl), wrapP (Nat.le_trans hi hl), hu, -getElem?_pos]
    refine callP_of (fitsText_h x) (by simp) (by simp) ?_
    simp [hx, hy, h, wrapN (Nat.le_trans hi hl), wrapP (Nat.le_trans hi hl), hu, -getElem?_pos]
    and_intros
    · omega
    · intro hc
      exact all_false h (by rw [ht]; grind)
    · intro h1 h2
      exact ⟨i + 1, by simp, ⟨by omega, hok.next (by rw [ht]; grind)⟩, by omega⟩
  · have : i = l.length := by omega
    subst this
    simp
    exact hok
end X
def nNumAt (l : List Int) (i : Nat) : Bool := fitsNumF (l.getD i 0) && !(decide (0 < i) && decide (l.getD (i - 1) 0 ≥ l.getD i 0))
def nNumsF (l : List Int) : Bool := (List.range l.length).all (nNumAt l)
namespace X
theorem nNums_h (l : List Int) (hl : l.length ≤ 35184372088064) : Has Tryz.prog 161 [intsA l, .imm (.func (.func 162) #[] #[])] (bA (nNumsF l)) noTok := by
  refine fnX mixed ⟨[0, 1, 4, 5, 6, 7, 8, 9, 10, 30], [], [], [], []⟩ Tryz.func161 rfl rfl rfl (by kernel_rfl) rfl ?_
  simp [intsA]
  refine wF_loop [] [] [0, 1, 4, 7, 8, 9] (fun i : Nat => St.asc [(0, .sl (l.map fun s => [iA s])), (1, .imm (.func (.func 162) #[] #[])), (4, bA false), (7, .sl (l.map fun s => [iA s])), (8, iA l.length), (9, iA i)] [] [] false) (fun i => i ≤ l.length ∧ Upto (nNumAt l) i) (fun i => l.length - i) 0 _ (by simp) (by simp) (by simp [Upto.zero]) ?_
  rintro i ⟨hi, hok⟩
  by_cases h : i < l.length
  · have hx : l[i]? = some l[i] := List.getElem?_eq_getElem h
    obtain ⟨y, hy⟩ := ex_at (l := l) (i := i - 1) (by omega)
    generalize l[i] = x at *
    have hu : ((i : Int) - 1).toNat = i - 1 := by omega
    have ht : nNumAt l i = (fitsNumF x && !(decide (0 < i) && decide (y ≥ x))) := by simp [nNumAt, hy, hx]
    simp [hx, hy, h, wrapN (Nat.le_trans hi hl), wrapP (Nat.le_trans hi hl), hu, -getElem?_pos]
    refine callP_of (fitsNum_h x) (by simp) (by simp) ?_
    simp [hx, hy, h, wrapN (Nat.le_trans hi hl), wrapP (Nat.le_trans hi hl), hu, -getElem?_pos]
    and_intros
    · omega
    · intro hc
      exact all_false h (by rw [ht]; grind)
    · intro h1 h2
      exact ⟨i + 1, by simp, ⟨by omega, hok.next (by rw [ht]; grind)⟩, by omega⟩
  · have : i = l.length := by omega
    subst this
    simp
    exact hok
end X
def nLitF (w : LookD) (l : LitD) : Bool :=
  if l.kind = 1 then
    if sameF { l with texts := [], nums := [] } { LitD.zero with kind := 1, term := l.term } = false then false
    else if textTermF w l.term then l.nums.length == 0 && nTextsF l.texts
    else numberTermF w l.term && l.texts.length == 0 && nNumsF l.nums
  else if l.kind = 2 then
    ((l.rel == 4 && decide (l.num ≥ -1000000000000000000) && decide (l.num ≤ 999999999999999999)) || (l.rel == 6 && decide (l.num ≥ -999999999999999999) && decide (l.num ≤ 1000000000000000000))) && numberTermF w l.term && sameF l { LitD.zero with kind := 2, term := l.term, rel := l.rel, num := l.num }
  else if l.kind = 3 then pairF w l && sameF l { LitD.zero with kind := 3, term := l.term, rel := l.rel, other := l.other }
  else if l.kind = 4 then keysF w l && sameF l { LitD.zero with kind := 4, term := l.term, of_ := l.of_ }
  else if l.kind = 5 then w.node && (plainTextF l.term || (l.term.side == 1 && textTermF w l.term)) && sameF l { LitD.zero with kind := 5, term := l.term }
  else if l.kind = 6 then w.node && decide (l.key.size ≤ 127) && sameF l { LitD.zero with kind := 6, key := l.key }
  else if l.kind = 7 then w.node && decide (l.key.size ≤ 127) && placeF w l.sel && sameF l { LitD.zero with kind := 7, key := l.key, sel := l.sel }
  else false
namespace X
set_option maxHeartbeats 2000000 in
theorem nLit_h (w : LookD) (l : LitD) (hl : l.fits) : Has Tryz.prog 99 [lookA w, .agg (litCs l)] (bA (nLitF w l)) noTok := by
  refine fnX mixed ⟨[0, 1, 3, 4, 5, 6, 7, 8, 10, 11, 21, 25, 50, 99, 115, 129, 160, 178], [3, 5], [], [], []⟩ Tryz.func99 rfl rfl rfl (by kernel_rfl) rfl ?_
  simp [litCs, strsA, intsA, lookA]
  repeat' first
    | refine And.intro ?_ ?_
    | intro _
    | (refine callP_of (same_h { l with texts := [], nums := [] } { LitD.zero with kind := 1, term := l.term } ⟨by simp, by simp⟩) (by simp) (by simp) ?_; simp)
    | (refine callP_of (textTerm_h w l.term) (by simp) (by simp) ?_; simp)
    | (refine .inl (callG_of (fun _ => textTerm_h w l.term) (by simp) (by simp) ?_); simp)
    | (refine callP_of (numberTerm_h w l.term) (by simp) (by simp) ?_; simp)
    | (refine .inl (callG_of (fun _ => numberTerm_h w l.term) (by simp) (by simp) ?_); simp)
    | (refine .inl (callG_of (fun _ => nTexts_h l.texts hl.1) (by simp) (by simp) ?_); simp)
    | (refine .inl (callG_of (fun _ => nNums_h l.nums hl.2) (by simp) (by simp) ?_); simp)
    | (refine callP_of (pair_h w l) (by simp) (by simp) ?_; simp)
    | (refine callP_of (keys_h w l) (by simp) (by simp) ?_; simp)
    | (refine callP_of (plainText_h l.term) (by simp) (by simp) ?_; simp)
    | (refine .inl (callG_of (fun _ => fitsText_h l.key) (by simp) (by simp) ?_); simp)
    | (refine .inl (callG_of (fun _ => place_h w l.sel) (by simp) (by simp) ?_); simp)
    | (refine .inl (callG_of (fun _ => same_h l { LitD.zero with kind := 2, term := l.term, rel := l.rel, num := l.num } hl) (by simp) (by simp) ?_); simp)
    | (refine .inl (callG_of (fun _ => same_h l { LitD.zero with kind := 3, term := l.term, rel := l.rel, other := l.other } hl) (by simp) (by simp) ?_); simp)
    | (refine .inl (callG_of (fun _ => same_h l { LitD.zero with kind := 4, term := l.term, of_ := l.of_ } hl) (by simp) (by simp) ?_); simp)
    | (refine .inl (callG_of (fun _ => same_h l { LitD.zero with kind := 5, term := l.term } hl) (by simp) (by simp) ?_); simp)
    | (refine .inl (callG_of (fun _ => same_h l { LitD.zero with kind := 6, key := l.key } hl) (by simp) (by simp) ?_); simp)
    | (refine .inl (callG_of (fun _ => same_h l { LitD.zero with kind := 7, key := l.key, sel := l.sel } hl) (by simp) (by simp) ?_); simp)
  all_goals grind [nLitF]
end X
end Go.Proofs.YtldnkeackphilaaGreatDoor
namespace Go.Proofs.YtldnkeackphilaaGreatDoor
open Go.RowKit

set_option maxRecDepth 8000

def nPartF (w : LookD) (p : PartD) : Bool :=
  if p.kind = 1 ∨ p.kind = 2 then p.kids.length == 0 && !p.neg && isZeroF p.lit
  else if p.kind = 3 ∨ p.kind = 4 then decide (p.kids.length ≥ 2) && !p.neg && isZeroF p.lit
  else if p.kind = 5 then p.kids.length == 0 && nLitF w p.lit
  else false
namespace X
set_option maxHeartbeats 1000000 in
theorem nPart_h (w : LookD) (p : PartD) (hl : p.lit.fits) : Has Tryz.prog 58 [lookA w, .agg (partCs p)] (bA (nPartF w p)) noTok := by
  refine fnX mixed ⟨[0, 1, 3, 4, 6, 7, 24, 41], [3], [], [], []⟩ Tryz.func58 rfl rfl rfl (by kernel_rfl) rfl ?_
  simp [partCs, strsA, intsA, lookA]
  repeat' first
    | refine And.intro ?_ ?_
    | intro _
    | (refine .inl (callG_of (fun _ => isZero_h p.lit hl) (by simp) (by simp) ?_); simp)
    | (refine .inl (callG_of (fun _ => nLit_h w p.lit hl) (by simp) (by simp) ?_); simp)
  all_goals grind [nPartF]
end X
end Go.Proofs.YtldnkeackphilaaGreatDoor
namespace Go.Proofs.YtldnkeackphilaaGreatDoor
open Go.RowKit

theorem less_total : ∀ (a b : List UInt8), (Op.bytesLess a b || a == b) = !(Op.bytesLess b a)
  | [], [] => rfl
  | [], _ :: _ => rfl
  | _ :: _, [] => rfl
  | x :: a, y :: b => by
    have ih := less_total a b
    simp only [Op.bytesLess]
    have hc : ((x :: a) == (y :: b)) = (x == y && a == b) := rfl
    rw [hc]
    rcases Nat.lt_trichotomy x.toNat y.toNat with h | h | h
    · have h1 : x < y := UInt8.lt_iff_toNat_lt.2 h
      have h2 : ¬ y < x := fun h' => by have := UInt8.lt_iff_toNat_lt.1 h'; omega
      have h3 : (y == x) = false := by
        rw [Bool.eq_false_iff]
        intro e
        have := eq_of_beq e
        subst this
        omega
      simp [h1, h2, h3]
    · have : x = y := UInt8.toNat_inj.1 h
      subst this
      have h1 : ¬ x < x := fun h' => by have := UInt8.lt_iff_toNat_lt.1 h'; omega
      simp [h1, ih]
    · have h1 : y < x := UInt8.lt_iff_toNat_lt.2 h
      have h2 : ¬ x < y := fun h' => by have := UInt8.lt_iff_toNat_lt.1 h'; omega
      have h3 : (x == y) = false := by
        rw [Bool.eq_false_iff]
        intro e
        have := eq_of_beq e
        subst this
        omega
      simp [h1, h2, h3]
theorem texts_eq (l : List ByteArray) : nTextsF l = risingTextsF l := by
  unfold nTextsF risingTextsF
  congr 1
  funext i
  simp only [nTextAt, textAt, leqS, less_total, Bool.not_not]
  generalize (l.getD i noText).size = n
  generalize Op.bytesLess (l.getD (i - 1) noText).toList (l.getD i noText).toList = B
  grind
theorem nums_eq (l : List Int) : nNumsF l = risingNumsF l := by
  unfold nNumsF risingNumsF
  congr 1
  funext i
  simp only [nNumAt, numAt, fitsNumF]
  grind
theorem size_nil {s : ByteArray} (h : s.toList = []) : s.size = 0 := by
  rw [ByteArray.toList_eq] at h
  have : s.data.toList.length = 0 := by rw [h]; rfl
  simpa using this
theorem textTerm_eq (t : TermD) (pods : Bool) (sels : Int) : textTermF ⟨sels, !pods⟩ t = (termF t pods sels && textF t) := by
  have hk := size_nil (s := t.key)
  simp only [textTermF, termF, textF, moverF, sideF]
  generalize t.key.toList = K at *
  generalize t.key.size = n at *
  cases pods <;> grind
theorem numberTerm_eq (t : TermD) (pods : Bool) (sels : Int) : numberTermF ⟨sels, !pods⟩ t = (termF t pods sels && numberF t) := by
  simp only [numberTermF, termF, numberF, moverF, sideF, placeF]
  generalize t.key.toList = K at *
  generalize t.key.size = n at *
  cases pods <;> grind
theorem plainText_eq (t : TermD) (pods : Bool) (sels : Int) : plainTextF t = (termF t pods sels && t.kind == 1) := by
  simp only [plainTextF, termF]
  generalize t.key.toList = K at *
  generalize t.key.size = n at *
  cases pods <;> grind
theorem eqT_self (t : TermD) : eqT t t = true := by simp [eqT]
theorem len0 {α : Type} (l : List α) : decide (l.length > 0) = !(l.length == 0) := by cases l <;> simp
theorem lit1_eq (l : LitD) (pods : Bool) (sels : Int) (h : l.kind = 1) : nLitF ⟨sels, !pods⟩ l = litF l pods sels := by
  have hk := size_nil (s := l.key)
  simp only [nLitF, litF, h, sameF, restF, inF, textTerm_eq, numberTerm_eq, texts_eq, nums_eq, eqT_self, LitD.zero, noText_l, List.length_nil, len0]
  generalize eqT l.other .zero = E
  generalize l.key.toList = K at *
  generalize l.key.size = n at *
  generalize termF l.term pods sels = T
  generalize textF l.term = X
  generalize numberF l.term = Y
  grind
theorem lit2_eq (l : LitD) (pods : Bool) (sels : Int) (h : l.kind = 2) : nLitF ⟨sels, !pods⟩ l = litF l pods sels := by
  have hk := size_nil (s := l.key)
  simp only [nLitF, litF, h, sameF, restF, relF, numberTerm_eq, eqT_self, LitD.zero, noText_l, List.length_nil, len0]
  generalize eqT l.other .zero = E
  generalize l.key.toList = K at *
  generalize l.key.size = n at *
  generalize termF l.term pods sels = T
  generalize numberF l.term = Y
  generalize (l.texts.length == 0) = A
  generalize (l.nums.length == 0) = B
  grind
theorem lit3_eq (l : LitD) (pods : Bool) (sels : Int) (h : l.kind = 3) : nLitF ⟨sels, !pods⟩ l = litF l pods sels := by
  have hk := size_nil (s := l.key)
  have hn : numberF l.other = true ∧ termF l.other pods sels = true → True := fun _ => trivial
  simp only [nLitF, litF, h, sameF, restF, podF, pairF, textTerm_eq, numberTerm_eq, eqT_self, LitD.zero, noText_l, List.length_nil, len0]
  have hnum : (l.other.kind == 4) = true → numberF l.other = true := by
    intro h; simp only [numberF]; grind
  generalize numberF l.other = Y2 at *
  generalize l.key.toList = K at *
  generalize l.key.size = n at *
  generalize termF l.term pods sels = T
  generalize termF l.other pods sels = T2
  generalize textF l.term = X
  generalize textF l.other = X2
  generalize numberF l.term = Y
  generalize (l.texts.length == 0) = A
  generalize (l.nums.length == 0) = B
  cases T <;> cases T2 <;> cases X <;> cases A <;> cases B <;> simp <;> grind
theorem lit4_eq (l : LitD) (pods : Bool) (sels : Int) (h : l.kind = 4) : nLitF ⟨sels, !pods⟩ l = litF l pods sels := by
  have hk := size_nil (s := l.key)
  simp only [nLitF, litF, h, sameF, restF, keysF, textTerm_eq, plainText_eq l.term pods sels, eqT_self, LitD.zero, noText_l, List.length_nil, len0, moverF, sideF, ofPodF]
  generalize eqT l.other .zero = E
  generalize l.key.toList = K at *
  generalize l.key.size = n at *
  generalize termF l.term pods sels = T
  generalize textF l.term = X
  generalize (l.texts.length == 0) = A
  generalize (l.nums.length == 0) = B
  cases pods <;> cases T <;> cases X <;> cases A <;> cases B <;> cases E <;> simp <;> grind
theorem lit5_eq (l : LitD) (pods : Bool) (sels : Int) (h : l.kind = 5) : nLitF ⟨sels, !pods⟩ l = litF l pods sels := by
  have hk := size_nil (s := l.key)
  simp only [nLitF, litF, h, sameF, restF, textTerm_eq, plainText_eq l.term pods sels, eqT_self, LitD.zero, noText_l, List.length_nil, len0, ofPodF]
  generalize eqT l.other .zero = E
  generalize l.key.toList = K at *
  generalize l.key.size = n at *
  generalize termF l.term pods sels = T
  generalize textF l.term = X
  generalize (l.texts.length == 0) = A
  generalize (l.nums.length == 0) = B
  cases pods <;> cases T <;> cases X <;> cases A <;> cases B <;> cases E <;> simp <;> grind
theorem lit67_eq (l : LitD) (pods : Bool) (sels : Int) (h : l.kind = 6 ∨ l.kind = 7) : nLitF ⟨sels, !pods⟩ l = litF l pods sels := by
  rcases h with h | h
  all_goals
    simp only [nLitF, litF, h, sameF, restF, eqT_self, LitD.zero, noText_l, List.length_nil, len0, placeF]
    generalize eqT l.other .zero = E
    generalize eqT l.term .zero = E2
    generalize l.key.size = n at *
    generalize (l.texts.length == 0) = A
    generalize (l.nums.length == 0) = B
    cases pods <;> cases A <;> cases B <;> cases E <;> cases E2 <;> simp <;> grind
theorem lit_eq (l : LitD) (pods : Bool) (sels : Int) : nLitF ⟨sels, !pods⟩ l = litF l pods sels := by
  by_cases h1 : l.kind = 1
  · exact lit1_eq l pods sels h1
  by_cases h2 : l.kind = 2
  · exact lit2_eq l pods sels h2
  by_cases h3 : l.kind = 3
  · exact lit3_eq l pods sels h3
  by_cases h4 : l.kind = 4
  · exact lit4_eq l pods sels h4
  by_cases h5 : l.kind = 5
  · exact lit5_eq l pods sels h5
  by_cases h6 : l.kind = 6 ∨ l.kind = 7
  · exact lit67_eq l pods sels h6
  have h6' : ¬ l.kind = 6 := fun h => h6 (.inl h)
  have h7' : ¬ l.kind = 7 := fun h => h6 (.inr h)
  simp [nLitF, litF, h1, h2, h3, h4, h5, h6', h7']
end Go.Proofs.YtldnkeackphilaaGreatDoor
namespace Go.Proofs.YtldnkeackphilaaGreatDoor
open Go.RowKit

def okN (n : Int) : Prop := -999999999999999999 ≤ n ∧ n ≤ 999999999999999999
end Go.Proofs.YtldnkeackphilaaGreatDoor
namespace Go.Proofs.YtldnkeackphilaaGreatDoor

inductive GoodV : Bool → Tr → Prop
  | leaf (b : Bool) (k : Int) (h : k = 1 ∨ k = 2) : GoodV b (.leaf k)
  | lit (b : Bool) (l : LitD) (s : Int) (h : ∀ m : Int, litF l (!b) m = true) : GoodV b (.lit l s none)
  | sel (l : LitD) (s : Int) (u : Tr) (h : ∀ n m : Int, 0 ≤ n → n < m → litF (l.at_ n) false m = true) (hu : GoodV false u) : GoodV true (.lit l s (some u))
  | join (b : Bool) (k : Int) (kids : List Tr) (hk : k = 3 ∨ k = 4) (h2 : 2 ≤ kids.length) (h : ∀ t ∈ kids, GoodV b t) : GoodV b (.mk k false .zero kids none)
def restL (l : LitD) (pods : Bool) (sels : Int) : Bool :=
    if l.kind = 1 then inF l && restF l true false false false false false
    else if l.kind = 2 then relF l && restF l false true true false false false
    else if l.kind = 3 then termF l.other pods sels && podF l && restF l false true false true false false
    else if l.kind = 4 then !(!(sideF l.of_ pods) || (l.term.kind != 1 && !textF l.term)) && (l.of_ == 1 || ofPodF l.term) && restF l false false false false true false
    else if l.kind = 5 then !pods && (l.term.kind == 1 || textF l.term) && ofPodF l.term && restF l false false false false false false
    else false
theorem eqT_zero : eqT .zero .zero = true := by simp [eqT]
end Go.Proofs.YtldnkeackphilaaGreatDoor
namespace Go.Proofs.YtldnkeackphilaaGreatDoor

theorem orE {f : Option (Int × Int)} {u t : Int × Int} (h : orElse f u = .inr t) : f = none ∧ t = u := by
  unfold orElse at h
  split at h
  · cases h
  · cases h; exact ⟨rfl, rfl⟩
set_option linter.unusedSectionVars false
section
variable {ps : List Part} {scope : Int} {ts : List (Int × Int)} (ht : Typed ps scope ts)
include ht
variable (c : Int → Int → Tr) {N : Nat} (hc : ∀ (j : Nat) p s, j < N → ps[j]? = some p → 1 ≤ p.kind ∧ p.kind ≤ 10 → (scopeAt ps scope j = 2 ∨ scopeAt ps scope j = 3) → GoodV (selB ps scope j) (c j s))
include hc
end
end Go.Proofs.YtldnkeackphilaaGreatDoor
namespace Go.Proofs.YtldnkeackphilaaGreatDoor

set_option linter.unusedSectionVars false
section
variable {ps : List Part} {scope : Int} {ts : List (Int × Int)} (ht : Typed ps scope ts)
include ht
variable (c : Int → Int → Tr) {N : Nat} (hc : ∀ (j : Nat) p s, j < N → ps[j]? = some p → 1 ≤ p.kind ∧ p.kind ≤ 10 → (scopeAt ps scope j = 2 ∨ scopeAt ps scope j = 3) → GoodV (selB ps scope j) (c j s))
include hc
end
end Go.Proofs.YtldnkeackphilaaGreatDoor
namespace Go.Proofs.YtldnkeackphilaaGreatDoor
open Go.RowKit

theorem zero_eq (l : LitD) : isZeroF l = zeroF l := by
  simp only [isZeroF, zeroF, sameF, restF, LitD.zero, noText_l, len0, Bool.not_false, Bool.true_and, Bool.false_or]
  generalize eqT l.other .zero = E
  generalize eqT l.term .zero = E2
  generalize l.key.toList = K
  generalize (l.texts.length == 0) = A
  generalize (l.nums.length == 0) = B
  cases A <;> cases B <;> cases E <;> cases E2 <;> simp <;> grind
theorem step_eq (pods : Bool) (sels : Int) (free : List Int) (p : PartD) : stepOk pods sels free p = (nPartF ⟨sels, !pods⟩ p && decide (p.kids.length ≤ free.length) && (p.kids == free.drop (free.length - p.kids.length))) := by
  simp only [stepOk, nPartF, lit_eq, zero_eq]
  generalize litF p.lit pods sels = F
  generalize zeroF p.lit = Z
  generalize (p.kids == free.drop (free.length - p.kids.length)) = D
  generalize p.kids.length = K
  generalize free.length = M
  generalize p.neg = N
  generalize p.kind = k
  have e1 : (K == 0) = decide (K = 0) := rfl
  simp only [e1]
  have hk : k < 1 ∨ k = 1 ∨ k = 2 ∨ k = 3 ∨ k = 4 ∨ k = 5 ∨ k > 5 := by omega
  rcases hk with h | rfl | rfl | rfl | rfl | rfl | h
  · have h1 : ¬ k = 1 := by omega
    have h2 : ¬ k = 2 := by omega
    have h3 : ¬ k = 3 := by omega
    have h4 : ¬ k = 4 := by omega
    have h5 : ¬ k = 5 := by omega
    simp [h, h1, h2, h3, h4, h5]
  · cases F <;> cases Z <;> cases D <;> cases N <;> simp <;> grind
  · cases F <;> cases Z <;> cases D <;> cases N <;> simp <;> grind
  · cases F <;> cases Z <;> cases D <;> cases N <;> simp <;> grind
  · cases F <;> cases Z <;> cases D <;> cases N <;> simp <;> grind
  · cases F <;> cases Z <;> cases D <;> cases N <;> simp <;> grind
  · have h1 : ¬ k = 1 := by omega
    have h2 : ¬ k = 2 := by omega
    have h3 : ¬ k = 3 := by omega
    have h4 : ¬ k = 4 := by omega
    have h5 : ¬ k = 5 := by omega
    have h6 : 5 < k := h
    simp [h1, h2, h3, h4, h5, h6]
def wtL (l : List PartD) : Nat := (l.map partWt).sum
theorem measF_wt : ∀ (l : List PartD) (n : Nat), (measF l n ≤ 1000) = (n + wtL l ≤ 1000)
  | [], n => by simp [measF, wtL]
  | p :: l, n => by
    rw [measF]
    by_cases h : n ≤ 1000
    · rw [if_pos h, measF_wt l]
      simp [wtL]
      omega
    · rw [if_neg h]
      simp [wtL]
      omega
theorem measF_val : ∀ (l : List PartD) (n : Nat), n + wtL l ≤ 1000 → measF l n = n + wtL l
  | [], n, _ => by simp [measF, wtL]
  | p :: l, n, h => by
    have e : wtL (p :: l) = partWt p + wtL l := by simp [wtL]
    rw [e] at h ⊢
    rw [measF, if_pos (by omega), measF_val l _ (by omega)]
    omega
def wtP (ls : List (List PartD)) : Nat := (ls.map wtL).sum
theorem measP_wt : ∀ (ls : List (List PartD)) (n : Nat), (measP ls n ≤ 1000) = (n + wtP ls ≤ 1000)
  | [], n => by simp [measP, wtP]
  | l :: ls, n => by
    have e : wtP (l :: ls) = wtL l + wtP ls := by simp [wtP]
    rw [measP, e]
    by_cases h : n ≤ 1000
    · rw [if_pos h, measP_wt ls]
      by_cases h2 : wtL l ≤ 1000
      · rw [measF_val l 0 (by omega)]
        apply propext
        omega
      · have h3 : ¬ measF l 0 ≤ 1000 := by rw [measF_wt]; omega
        apply propext
        omega
    · rw [if_neg h]
      apply propext
      omega
theorem measureF_wt (p : PlanD) : (measureF p > 1000) = ¬ (wtL p.main + wtP p.sels ≤ 1000) := by
  have h1 := measP_wt p.sels (measF p.main 0)
  have h2 := measF_wt p.main 0
  apply propext
  unfold measureF
  by_cases h : wtL p.main ≤ 1000
  · rw [measF_val p.main 0 (by omega)] at h1 ⊢
    have h1' : measP p.sels (0 + wtL p.main) ≤ 1000 ↔ 0 + wtL p.main + wtP p.sels ≤ 1000 := by rw [h1]
    split <;> omega
  · have h3 : ¬ measF p.main 0 ≤ 1000 := by rw [h2]; omega
    have h1' : measP p.sels (measF p.main 0) ≤ 1000 ↔ measF p.main 0 + wtP p.sels ≤ 1000 := by rw [h1]
    split <;> omega
theorem plan_eq (p : PlanD) : planOkF p = (decide (wtL p.main + wtP p.sels ≤ 1000) && ((listF p.main false p.sels.length && p.sels.all fun l => listF l true 0) || (decide (p.sels.length = 0) && listF p.main true 0))) := by
  have hall : (List.range p.sels.length).all (selAt p) = p.sels.all fun l => listF l true 0 := by
    rw [Bool.eq_iff_iff, List.all_eq_true, List.all_eq_true]
    constructor
    · intro h l hl
      obtain ⟨i, hi, rfl⟩ := List.mem_iff_getElem.1 hl
      have := h i (List.mem_range.2 hi)
      simpa [selAt, hi] using this
    · intro h i hi
      have hi := List.mem_range.1 hi
      have := h p.sels[i] (List.getElem_mem hi)
      simpa [selAt, hi] using this
  unfold planOkF forF
  rw [hall]
  simp only [measureF_wt]
  generalize wtL p.main + wtP p.sels = W
  generalize hA : (p.sels.all fun l => listF l true 0) = A
  by_cases h0 : p.sels.length = 0
  · have hnil : p.sels = [] := List.length_eq_zero_iff.1 h0
    have hA' : A = true := by rw [← hA, hnil]; rfl
    subst hA'
    rw [h0]
    generalize listF p.main false ((0 : Nat) : Int) = B
    have e : ((0 : Nat) : Int) = 0 := rfl
    rw [e]
    generalize listF p.main true 0 = C
    by_cases hw : W ≤ 1000 <;> simp [hw] <;> cases B <;> cases C <;> rfl
  · have hpos : 0 < p.sels.length := by omega
    have h0' : ¬ p.sels = [] := fun h => h0 (by rw [h]; rfl)
    by_cases hw : W ≤ 1000 <;> simp [hw, hpos, h0, h0']
end Go.Proofs.YtldnkeackphilaaGreatDoor
namespace Go.Proofs.YtldnkeackphilaaGreatDoor.X
open Go.RowKit

set_option maxRecDepth 8000
set_option maxHeartbeats 2000000 in
theorem nList_h (lk : LookD) (l : List PartD) (hl : FitsL l) : Has Tryz.prog 36 [lookA lk, partsA l] (bA (listF l (!lk.node) lk.sels)) noTok := by
  refine fnX mixed ⟨[0, 1, 4, 5, 6, 7, 8, 9, 10, 13, 14, 15, 16, 17, 32, 40, 41, 42, 43, 54], [5, 7, 60, 61], [], [], []⟩ Tryz.func36 rfl rfl rfl (by kernel_rfl) rfl ?_
  obtain ⟨pods, hpods⟩ : ∃ b, b = !lk.node := ⟨_, rfl⟩
  have hse : ∀ free p, stepOk pods lk.sels free p = (nPartF lk p && decide (p.kids.length ≤ free.length) && (p.kids == free.drop (free.length - p.kids.length))) := fun free p => by
    rw [step_eq, hpods]; simp
  rw [← hpods]
  simp [partsA, lookA]
  refine ⟨fun h0 => by subst h0; rfl, fun h0 => ?_⟩
  refine wF_loop [.slot 5 5 3] [.slot 5 5] [0, 5, 14, 15, 16] (fun x : Nat × List Int => St.asc [(0, lookA lk), (5, .rw 5 0 x.2.length), (14, .sl (l.map partCs)), (15, iA l.length), (16, iA x.1)] [(5, .row 3 (x.2.map fun n => [iA n]))] [(5, true)] false)
    (fun x => x.1 ≤ l.length ∧ x.2.length ≤ x.1 ∧ freeF pods lk.sels (l.drop x.1) x.1 x.2 = freeF pods lk.sels l 0 []) (fun x => l.length - x.1) (0, []) _ (by simp) (by simp [lookA]) (by simp) ?_
  rintro ⟨i, free⟩ ⟨hi, hn, hm⟩
  have hlen := hl.len
  simp only at hi hn hm
  have hfr : List.take free.length (List.map (fun n => [iA n]) free) = List.map (fun n => [iA n]) free := List.take_of_length_le (by simp)
  by_cases h : i < l.length
  · have hx : l[i]? = some l[i] := List.getElem?_eq_getElem h
    have hf := hl.each l[i] (List.getElem_mem h)
    rw [drop_at hx, freeF] at hm
    obtain ⟨x, ex⟩ : ∃ x, x = l[i] := ⟨_, rfl⟩
    rw [← ex] at hx hf hm
    clear ex
    have h1 : IntKind.i64.wrap ((i : Int) + 1) = (i : Int) + 1 := wrap64 (by omega) (by omega)
    have hbad : stepOk pods lk.sels free x = false → listF l pods lk.sels = false := fun hb => by
      rw [hb] at hm
      simp only [listF, ← hm]
      rfl
    have h2 : IntKind.i64.wrap ((free.length : Int) - x.kids.length) = (free.length : Int) - x.kids.length := by
      have := hf.2
      exact wrap64 (by omega) (by omega)
    simp [hx, h, partCs, strsA, intsA, lookA, -getElem?_pos]
    refine callP_of (nPart_h lk x hf.1) (by simp) (by simp) ?_
    simp [h2, -getElem?_pos]
    refine ⟨fun hb => hbad ?_, fun b1 b2 => ?_⟩
    · rw [hse]
      rcases hb with hb | hb
      · simp [hb]
      · have : ¬ x.kids.length ≤ free.length := by omega
        simp [this]
    have hk := hf.2
    refine wF_loop [] [.slot 5 5, .slot 7 7] [0, 5, 6, 7, 8, 14, 15, 16, 40, 41, 42] (fun j : Nat => St.asc [(0, lookA lk), (5, .rw 5 0 free.length), (6, iA i), (7, .ref 7 0), (8, iA ((free.length : Int) - x.kids.length)), (14, .sl (l.map partCs)), (15, iA l.length), (16, iA i), (40, .sl (x.kids.map fun n => [iA n])), (41, iA x.kids.length), (42, iA j)] [(5, .row 3 (free.map fun n => [iA n])), (7, .box 63 (partCs x))] [(5, true), (7, true)] false)
      (fun j => j ≤ x.kids.length ∧ x.kids.take j = (free.drop (free.length - x.kids.length)).take j) (fun j => x.kids.length - j) 0 _ (by simp) (by simp [h2, partCs, strsA, intsA, lookA]) (by simp) ?_
    rintro j ⟨hj, hjm⟩
    by_cases hjl : j < x.kids.length
    · have hy : x.kids[j]? = some x.kids[j] := List.getElem?_eq_getElem hjl
      have hz : free[free.length - x.kids.length + j]? = some free[free.length - x.kids.length + j] := List.getElem?_eq_getElem (by omega)
      obtain ⟨y, ey⟩ : ∃ y, y = x.kids[j] := ⟨_, rfl⟩
      obtain ⟨z, ez⟩ : ∃ z, z = free[free.length - x.kids.length + j] := ⟨_, rfl⟩
      rw [← ey] at hy
      rw [← ez] at hz
      have h3 : IntKind.i64.wrap ((free.length : Int) - x.kids.length + j) = (free.length : Int) - x.kids.length + j := wrap64 (by omega) (by omega)
      have h4 : ((free.length : Int) - x.kids.length + j).toNat = free.length - x.kids.length + j := by omega
      have h5 : IntKind.i64.wrap ((j : Int) + 1) = (j : Int) + 1 := wrap64 (by omega) (by omega)
      have hzd : (free.drop (free.length - x.kids.length))[j]? = some z := by rw [List.getElem?_drop]; exact hz
      simp [partCs, strsA, intsA, lookA, hjl, hy, hz, hfr, h3, h4, h5, -getElem?_pos]
      refine ⟨⟨by omega, by omega⟩, by omega, fun hne => hbad ?_, fun he => ⟨j + 1, rfl, ⟨by omega, ?_⟩, by omega⟩⟩
      · have : (x.kids == free.drop (free.length - x.kids.length)) = false := by
          rw [Bool.eq_false_iff]
          intro hc
          have hc := eq_of_beq hc
          rw [← hc, hy] at hzd
          injection hzd with hzd
          exact hne hzd
        rw [hse, this, Bool.and_false]
      · rw [List.take_add_one, List.take_add_one, hjm, hy, hzd, he]
    · have : j = x.kids.length := by omega
      subst this
      have h6 : ((free.length : Int) - x.kids.length).toNat = free.length - x.kids.length := by omega
      have hkd : x.kids = free.drop (free.length - x.kids.length) := by
        rw [List.take_length, List.take_of_length_le (by rw [List.length_drop]; omega)] at hjm
        exact hjm
      have hgood : stepOk pods lk.sels free x = true := by
        rw [hse, ← hkd]
        simp [b1, b2]
      rw [if_pos hgood] at hm
      simp [partCs, strsA, intsA, lookA, h1, h6, hfr, -getElem?_pos]
      refine ⟨⟨by omega, by omega⟩, ⟨by omega, by omega⟩, i + 1, stepF free i x, ?_, ⟨by omega, by simp [stepF]; omega, hm⟩, by omega⟩
      simp [stepF]
  · have : i = l.length := by omega
    subst this
    rw [List.drop_length] at hm
    simp
    rw [listF, ← hm]
    simp [freeF]
    rw [Bool.eq_iff_iff]
    simp
    omega
end Go.Proofs.YtldnkeackphilaaGreatDoor.X
namespace Go.Proofs.YtldnkeackphilaaGreatDoor.X
open Go.RowKit

def walkF : List PartD → Nat → Nat
  | [], m => m
  | p :: l, m => if 1000 < m then m else walkF l (m + (p.lit.texts.length + p.lit.nums.length))
set_option maxRecDepth 8000
set_option maxHeartbeats 1000000 in
theorem add_h (l : List PartD) (hl : FitsL l) (n : Nat) (hn : n ≤ 1000000000) : Hs Tryz.prog 57 [partsA l, .ref 1000 0] [(1000, .box 3 [iA n])] (bA (decide (walkF l (n + l.length) ≤ 1000))) [1000] [(1000, .box 3 [iA (walkF l (n + l.length))])] := by
  refine hsX mixed ⟨[0, 1, 3, 5, 10, 11, 12, 13, 17], [1000, 5], [], [], [1000]⟩ [] [] [.keep 1000] Tryz.func57 rfl rfl rfl (by kernel_rfl) rfl ?_
  have hlen := hl.len
  have hw0 : IntKind.i64.wrap ((n : Int) + l.length) = (n : Int) + l.length := wrap64 (by omega) (by omega)
  simp [partsA, hw0]
  refine wF_loop [] [.keep 1000] [1, 10, 11, 12] (fun x : Nat × Nat => St.asc [(1, .ref 1000 0), (10, .sl (l.map partCs)), (11, iA l.length), (12, iA x.1)] [(1000, .box 3 [iA x.2])] [(1000, true)] false)
    (fun x => x.1 ≤ l.length ∧ x.2 ≤ 1000000000 + 4398046511104 + 1000 + 70368744176129 ∧ walkF (l.drop x.1) x.2 = walkF l (n + l.length)) (fun x => l.length - x.1) (0, n + l.length) _ (by simp) (by simp) (by simp; omega) ?_
  rintro ⟨i, m⟩ ⟨hi, hm, hr⟩
  simp only at hi hm hr
  by_cases h : i < l.length
  · have hx : l[i]? = some l[i] := List.getElem?_eq_getElem h
    have hf := (hl.each l[i] (List.getElem_mem h)).1
    rw [drop_at hx, walkF] at hr
    obtain ⟨x, ex⟩ : ∃ x, x = l[i] := ⟨_, rfl⟩
    rw [← ex] at hx hf hr
    clear ex
    have h1 : IntKind.i64.wrap ((i : Int) + 1) = (i : Int) + 1 := wrap64 (by omega) (by omega)
    have f1 := hf.1
    have f2 := hf.2
    have h2 : IntKind.i64.wrap ((x.lit.texts.length : Int) + x.lit.nums.length) = (x.lit.texts.length : Int) + x.lit.nums.length := wrap64 (by omega) (by omega)
    have h3 : IntKind.i64.wrap ((m : Int) + ((x.lit.texts.length : Int) + x.lit.nums.length)) = (m : Int) + ((x.lit.texts.length : Int) + x.lit.nums.length) := wrap64 (by omega) (by omega)
    simp [hx, h, partCs, strsA, intsA, h1, h2, h3, -getElem?_pos]
    refine ⟨fun hb => ?_, fun hb => ⟨i + 1, m + (x.lit.texts.length + x.lit.nums.length), by simp, ⟨by omega, by omega, ?_⟩, by omega⟩⟩
    · rw [if_pos (by omega)] at hr
      rw [← hr]
      exact ⟨by omega, rfl⟩
    · rw [if_neg (by omega)] at hr
      exact hr
  · have : i = l.length := by omega
    subst this
    rw [List.drop_length, walkF] at hr
    rw [← hr]
    simp
    omega
end Go.Proofs.YtldnkeackphilaaGreatDoor.X
namespace Go.Proofs.YtldnkeackphilaaGreatDoor.X
open Go.RowKit

theorem walk_le : ∀ (l : List PartD) (m : Nat), (walkF l m ≤ 1000 ↔ m + (l.map fun p => p.lit.texts.length + p.lit.nums.length).sum ≤ 1000) ∧ (walkF l m ≤ 1000 → walkF l m = m + (l.map fun p => p.lit.texts.length + p.lit.nums.length).sum)
  | [], m => by simp [walkF]
  | p :: l, m => by
    have ih := walk_le l (m + (p.lit.texts.length + p.lit.nums.length))
    rw [walkF]
    simp only [List.map_cons, List.sum_cons]
    split
    · constructor
      · constructor <;> intro h <;> omega
      · intro h; omega
    · constructor
      · rw [ih.1]; omega
      · intro h; rw [ih.2 h]; omega
theorem wtL_sum : ∀ l : List PartD, wtL l = l.length + (l.map fun p => p.lit.texts.length + p.lit.nums.length).sum
  | [] => by simp [wtL]
  | p :: l => by
    have := wtL_sum l
    simp only [wtL, List.map_cons, List.sum_cons, List.length_cons, partWt] at *
    omega
theorem walk_wt (l : List PartD) (n : Nat) : (walkF l (n + l.length) ≤ 1000 ↔ n + wtL l ≤ 1000) ∧ (walkF l (n + l.length) ≤ 1000 → walkF l (n + l.length) = n + wtL l) := by
  have := walk_le l (n + l.length)
  rw [wtL_sum]
  constructor
  · rw [this.1]; omega
  · intro h; rw [this.2 h]; omega
set_option maxRecDepth 8000
set_option maxHeartbeats 1000000 in
theorem measured_h (p : PlanD) (hp : FitsP p) : Has Tryz.prog 35 [.agg (planCs p)] (bA (decide (wtL p.main + wtP p.sels ≤ 1000))) noTok := by
  refine fnX mixed ⟨[0, 1, 2, 3, 4, 6, 12, 14, 15, 16, 17, 23], [1, 3], [], [], []⟩ Tryz.func35 rfl rfl rfl (by kernel_rfl) rfl ?_
  have hA := add_h p.main hp.main 0 (by omega)
  have hw := walk_wt p.main 0
  rw [Nat.zero_add] at hA hw
  unfold partsA at hA
  obtain ⟨m, em⟩ : ∃ m, m = walkF p.main p.main.length := ⟨_, rfl⟩
  rw [← em] at hA hw
  simp [planCs, partsA, selsA]
  refine callH_of [(1000, 3)] [] hA (by simp) (by simp) (by simp) ?_
  simp
  have hlen := hp.len
  refine ⟨fun hb => by omega, fun hb => ?_⟩
  refine wF_loop [] [.slot 3 3] [3, 4, 14, 15, 16] (fun x : Nat × Nat => St.asc [(3, .ref 3 0), (4, .fnc 57 [.ref 3 0]), (14, .sl (p.sels.map fun x => [.sl (x.map partCs)])), (15, iA p.sels.length), (16, iA x.1)] [(3, .box 3 [iA x.2])] [(3, true)] false)
    (fun x => x.1 ≤ p.sels.length ∧ x.2 ≤ 1000 ∧ x.2 + wtP (p.sels.drop x.1) = wtL p.main + wtP p.sels) (fun x => p.sels.length - x.1) (0, m) _ (by simp) (by simp) (by simp; omega) ?_
  rintro ⟨i, k⟩ ⟨hi, hk, hr⟩
  simp only at hi hk hr
  by_cases h : i < p.sels.length
  · have hx : p.sels[i]? = some p.sels[i] := List.getElem?_eq_getElem h
    have hf := hp.each p.sels[i] (List.getElem_mem h)
    rw [drop_at hx] at hr
    have hcons : ∀ (y : List PartD) (r : List (List PartD)), wtP (y :: r) = wtL y + wtP r := fun y r => by simp [wtP]
    rw [hcons] at hr
    obtain ⟨x, ex⟩ : ∃ x, x = p.sels[i] := ⟨_, rfl⟩
    rw [← ex] at hx hf hr
    clear ex
    have h1 : IntKind.i64.wrap ((i : Int) + 1) = (i : Int) + 1 := wrap64 (by omega) (by omega)
    have hB := add_h x hf k (by omega)
    have hv := walk_wt x k
    unfold partsA at hB
    obtain ⟨j, ej⟩ : ∃ j, j = walkF x (k + x.length) := ⟨_, rfl⟩
    rw [← ej] at hB hv
    simp [hx, h, -getElem?_pos]
    refine callH_of [(1000, 3)] [] hB (by simp) (by simp) (by simp) ?_
    simp [h1]
    refine ⟨fun hb => by omega, fun hb => ⟨i + 1, j, by simp, ⟨by omega, hb, ?_⟩, by omega⟩⟩
    have := hv.2 hb
    omega
  · have : i = p.sels.length := by omega
    subst this
    rw [List.drop_length] at hr
    simp [wtP] at hr ⊢
    apply decide_eq_true
    omega
end Go.Proofs.YtldnkeackphilaaGreatDoor.X
namespace Go.Proofs.YtldnkeackphilaaGreatDoor.X

end Go.Proofs.YtldnkeackphilaaGreatDoor.X
namespace Go.Proofs.YtldnkeackphilaaGreatDoor
open X

end Go.Proofs.YtldnkeackphilaaGreatDoor
namespace Go.Proofs.YtldnkeackphilaaGreatDoor.X
open Go.RowKit

set_option maxRecDepth 8000
theorem wtL_take (l : List PartD) {i : Nat} {x : PartD} (hx : l[i]? = some x) : wtL (l.take (i + 1)) = wtL (l.take i) + partWt x := by
  rw [List.take_add_one, hx]
  simp [wtL]
def nextF (l : LitD) (at_ : Int) : Bool × Bool := if l.kind = 7 then (true, l.sel == at_) else if l.term.kind = 6 then (true, l.term.sel == at_) else (false, true)
def standP (n : Nat) (p : PartD) : Bool := !decide ((p.kind = 1 ∨ p.kind = 2) ∧ n > 1) && !(p.neg && decide (p.kind ≠ 5)) && !decide (p.lit.kind = 2 ∧ p.lit.rel ≠ 4 ∧ p.lit.rel ≠ 6) && !decide (p.lit.kind = 3 ∧ p.lit.rel = 2)
def aloneF (l : List PartD) : Bool := l.all (standP l.length)
end Go.Proofs.YtldnkeackphilaaGreatDoor.X
namespace Go.Proofs.YtldnkeackphilaaGreatDoor.X

def scanF : List PartD → Nat → Option Nat
  | [], n => some n
  | p :: r, n => if (nextF p.lit n).2 then scanF r (if (nextF p.lit n).1 then n + 1 else n) else none
theorem scan_app : ∀ (a b : List PartD) (n : Nat), scanF (a ++ b) n = (scanF a n).bind (scanF b)
  | [], _, _ => rfl
  | p :: a, b, n => by
    rw [List.cons_append, scanF, scanF]
    split
    · exact scan_app a b _
    · rfl
theorem wtL_app (a b : List PartD) : wtL (a ++ b) = wtL a + wtL b := by simp [wtL]
structure WG (b : Bool) (T : Tr) (list : List PartD) (sels : List (List PartD)) (new : List PartD) (ns : List (List PartD)) : Prop where
  eq : writeT T list sels = (list ++ new, sels ++ ns)
  ne : new ≠ []
  st : ∀ p ∈ new, standP 1 p = true
  nc : T.kind ≠ 1 ∧ T.kind ≠ 2 → ∀ p ∈ new, p.kind ≠ 1 ∧ p.kind ≠ 2
  one : T.kind = 1 ∨ T.kind = 2 → new.length = 1
  scan : scanF new sels.length = some (sels.length + ns.length)
  wt : wtL new + (ns.map wtL).sum = wtT T
  al : ∀ l ∈ ns, aloneF l = true
  no : b = false → ns = []
  kl : (∀ p ∈ new, p.kids.length ≤ wtT T) ∧ ∀ l ∈ ns, ∀ p ∈ l, p.kids.length ≤ wtT T
theorem stand_n {p : PartD} (h : standP 1 p = true) (hc : p.kind ≠ 1 ∧ p.kind ≠ 2) (n : Nat) : standP n p = true := by
  have e : ¬((p.kind = 1 ∨ p.kind = 2) ∧ n > 1) := fun h => by omega
  have e1 : ¬((p.kind = 1 ∨ p.kind = 2) ∧ 1 > 1) := fun h => by omega
  simp only [standP, e, e1] at h ⊢
  exact h
theorem WG.alone {b : Bool} {T : Tr} {list : List PartD} {sels : List (List PartD)} {new : List PartD} {ns : List (List PartD)} (h : WG b T list sels new ns) : aloneF new = true := by
  refine List.all_eq_true.2 fun p hp => ?_
  by_cases hk : T.kind = 1 ∨ T.kind = 2
  · rw [h.one hk]; exact h.st p hp
  · exact stand_n (h.st p hp) (h.nc (by omega) p hp) _
theorem stand_mk (k : Int) (neg : Bool) (l : LitD) (ks : List Int) (h1 : neg = true → k = 5) (h2 : l.kind = 2 → l.rel = 4 ∨ l.rel = 6) (h3 : l.kind = 3 → l.rel ≠ 2) : standP 1 ⟨k, neg, l, ks⟩ = true := by
  have e1 : ¬((k = 1 ∨ k = 2) ∧ 1 > 1) := fun h => by omega
  have e2 : (neg && decide (k ≠ 5)) = false := by
    cases neg
    · rfl
    · simp [h1 rfl]
  have e3 : ¬(l.kind = 2 ∧ l.rel ≠ 4 ∧ l.rel ≠ 6) := fun h => by have := h2 h.1; omega
  have e4 : ¬(l.kind = 3 ∧ l.rel = 2) := fun h => h3 h.1 h.2
  simp only [standP, e1, e2, e3, e4]
  rfl
theorem at_kind (l : LitD) (n : Int) : (l.at_ n).kind = l.kind ∧ (l.at_ n).rel = l.rel ∧ (l.at_ n).texts = l.texts ∧ (l.at_ n).nums = l.nums := by
  unfold LitD.at_
  split <;> exact ⟨rfl, rfl, rfl, rfl⟩
theorem next_at (l : LitD) (n : Nat) (h : l.kind = 7 ∨ l.term.kind = 6) : nextF (l.at_ n) n = (true, true) := by
  unfold nextF LitD.at_
  by_cases h7 : l.kind = 7
  · simp [h7]
  · simp [h7, h.resolve_left h7]
theorem next_no (l : LitD) (n : Nat) (h : ¬(l.kind = 7 ∨ l.term.kind = 6)) : nextF l n = (false, true) := by
  unfold nextF
  rw [if_neg (fun e => h (.inl e)), if_neg (fun e => h (.inr e))]
structure WK (b : Bool) (l : List Tr) (list : List PartD) (sels : List (List PartD)) (at0 : List Int) (new : List PartD) (ns : List (List PartD)) (at1 : List Int) : Prop where
  eq : writeKs l list sels at0 = (list ++ new, sels ++ ns, at1)
  st : ∀ p ∈ new, standP 1 p = true
  nc : (∀ t ∈ l, t.kind ≠ 1 ∧ t.kind ≠ 2) → ∀ p ∈ new, p.kind ≠ 1 ∧ p.kind ≠ 2
  nil : l = [] → new = []
  scan : scanF new sels.length = some (sels.length + ns.length)
  wt : wtL new + (ns.map wtL).sum = wtKs l
  al : ∀ l ∈ ns, aloneF l = true
  no : b = false → ns = []
  kl : (∀ p ∈ new, p.kids.length ≤ wtKs l) ∧ ∀ x ∈ ns, ∀ p ∈ x, p.kids.length ≤ wtKs l
  an : at1.length = at0.length + l.length
theorem wtKs_len : ∀ l : List Tr, l.length ≤ wtKs l
  | [] => by simp [wtKs]
  | t :: r => by have := wtKs_len r; have := wt_pos t; simp only [wtKs, List.length_cons]; omega
theorem kids_good (b : Bool) : ∀ (l : List Tr), (∀ t ∈ l, ∀ list sels, ∃ new ns, WG b t list sels new ns) → ∀ list sels at0, ∃ new ns at1, WK b l list sels at0 new ns at1
  | [], _, list, sels, at0 => ⟨[], [], at0, by simp [writeKs], by simp, by simp, by simp, by simp [scanF], by simp [wtL, wtKs], by simp, by simp, by simp, by simp⟩
  | t :: r, h, list, sels, at0 => by
    obtain ⟨n1, s1, h1⟩ := h t (by simp) list sels
    obtain ⟨n2, s2, a2, h2⟩ := kids_good b r (fun u hu => h u (by simp [hu])) (list ++ n1) (sels ++ s1) (at0 ++ [((list ++ n1).length : Int) - 1])
    refine ⟨n1 ++ n2, s1 ++ s2, a2, ?_, ?_, ?_, by simp, ?_, ?_, ?_, ?_, ⟨?_, ?_⟩, ?_⟩
    · rw [writeKs]
      simp only [h1.eq, h2.eq, List.append_assoc]
    · exact fun p hp => (List.mem_append.1 hp).elim (h1.st p) (h2.st p)
    · exact fun hk p hp => (List.mem_append.1 hp).elim (h1.nc (hk t (by simp)) p) (h2.nc (fun u hu => hk u (by simp [hu])) p)
    · rw [scan_app, h1.scan]
      have := h2.scan
      rw [List.length_append] at this
      simp only [Option.bind_some, this, List.length_append]
      congr 1
      omega
    · have := h1.wt
      have := h2.wt
      rw [wtL_app, List.map_append, List.sum_append, wtKs]
      omega
    · exact fun l hl => (List.mem_append.1 hl).elim (h1.al l) (h2.al l)
    · exact fun hb => by rw [h1.no hb, h2.no hb]; rfl
    · exact fun p hp => by
        rw [wtKs]
        rcases List.mem_append.1 hp with hp | hp
        · have := h1.kl.1 p hp; omega
        · have := h2.kl.1 p hp; omega
    · exact fun x hx p hp => by
        rw [wtKs]
        rcases List.mem_append.1 hx with hx | hx
        · have := h1.kl.2 x hx p hp; omega
        · have := h2.kl.2 x hx p hp; omega
    · have := h2.an
      simp only [List.length_append, List.length_cons, List.length_nil] at this ⊢
      omega
theorem write_good {b : Bool} {T : Tr} (h : GoodT b T) : ∀ list sels, ∃ new ns, WG b T list sels new ns := by
  induction h with
  | mk b k neg l kids sel h1 h2 h3 h4 h5 h6 h7 h8 h9 ih7 ih9 =>
    intro list sels
    obtain ⟨n1, s1, a1, hk⟩ := kids_good b kids ih7 list sels []
    have hwl : ∀ (l' : LitD) (ks : List Int), l'.texts = l.texts → l'.nums = l.nums → wtL [⟨k, neg, l', ks⟩] = 1 + l.texts.length + l.nums.length := fun l' ks e1 e2 => by simp [wtL, partWt, e1, e2]
    have hone : k = 1 ∨ k = 2 → n1 = [] := fun hc => hk.nil (h6 hc).1
    have hnc : ∀ (l' : LitD) (ks : List Int), (Tr.mk k neg l kids sel).kind ≠ 1 ∧ (Tr.mk k neg l kids sel).kind ≠ 2 → ∀ p ∈ n1 ++ [⟨k, neg, l', ks⟩], p.kind ≠ 1 ∧ p.kind ≠ 2 := fun l' ks hc p hp => by
      rcases List.mem_append.1 hp with hp | hp
      · exact hk.nc h5 p hp
      · rw [List.mem_singleton.1 hp]; exact hc
    have hst : ∀ (l' : LitD) (ks : List Int), l'.kind = l.kind → l'.rel = l.rel → ∀ p ∈ n1 ++ [⟨k, neg, l', ks⟩], standP 1 p = true := fun l' ks e1 e2 p hp => by
      rcases List.mem_append.1 hp with hp | hp
      · exact hk.st p hp
      · rw [List.mem_singleton.1 hp]; exact stand_mk k neg l' ks h1 (by rw [e1, e2]; exact h2) (by rw [e1, e2]; exact h3)
    have hkl : ∀ (l' : LitD), ∀ p ∈ n1 ++ [⟨k, neg, l', a1⟩], p.kids.length ≤ wtT (.mk k neg l kids sel) := fun l' p hp => by
      rw [wtT_mk]
      rcases List.mem_append.1 hp with hp | hp
      · have := hk.kl.1 p hp; omega
      · have h1 := hk.an
        have h2 := wtKs_len kids
        rw [List.mem_singleton.1 hp]
        simp only [List.length_nil, Nat.zero_add] at h1
        simp only
        omega
    cases sel with
    | none =>
      refine ⟨n1 ++ [⟨k, neg, l, a1⟩], s1, ?_, by simp, hst l a1 rfl rfl, hnc l a1, fun hc => by rw [hone hc]; rfl, ?_, ?_, hk.al, hk.no, hkl l, fun x hx p hp => by have := hk.kl.2 x hx p hp; rw [wtT_mk]; omega⟩
      · rw [writeT]
        simp only [hk.eq, List.append_assoc]
      · rw [scan_app, hk.scan]
        have hn : ¬(l.kind = 7 ∨ l.term.kind = 6) := fun e => by simpa using h4.1 e
        simp [scanF, next_no l _ hn]
      · have := hk.wt
        rw [wtL_app, hwl l a1 rfl rfl, wtT_mk]
        simp only [wtO]
        omega
    | some u =>
      obtain ⟨n2, s2, hu⟩ := ih9 u rfl [] (sels ++ s1)
      have hs2 := hu.no rfl
      subst hs2
      obtain ⟨e1, e2, e3, e4⟩ := at_kind l ((sels ++ s1).length : Nat)
      refine ⟨n1 ++ [⟨k, neg, l.at_ ((sels ++ s1).length : Nat), a1⟩], s1 ++ [n2], ?_, by simp, hst _ a1 e1 e2, hnc _ a1, fun hc => by rw [hone hc]; rfl, ?_, ?_, ?_, fun hb => ?_, hkl _, fun x hx p hp => ?_⟩
      · rw [writeT]
        simp only [hk.eq, hu.eq, List.append_assoc, List.nil_append, List.append_nil]
      · rw [scan_app, hk.scan]
        have hn := next_at l (sels ++ s1).length (h4.2 rfl)
        rw [List.length_append] at hn
        simp only [Option.bind_some, scanF, hn, if_true, List.length_append, List.length_cons, List.length_nil]
        congr 1
      · have := hk.wt
        have := hu.wt
        rw [wtL_app, hwl _ a1 e3 e4, wtT_mk, List.map_append, List.sum_append]
        simp only [wtO, List.map_cons, List.map_nil, List.sum_cons, List.sum_nil] at *
        omega
      · exact fun x hx => (List.mem_append.1 hx).elim (hk.al x) fun hx => by rw [List.mem_singleton.1 hx]; exact hu.alone
      · have := h8 u rfl
        rw [hb] at this
        cases this
      · rw [wtT_mk]
        simp only [wtO]
        rcases List.mem_append.1 hx with hx | hx
        · have := hk.kl.2 x hx p hp; omega
        · rw [List.mem_singleton.1 hx] at hp
          have := hu.kl.1 p hp
          omega
theorem plan_small {ps : List Part} {scope : Int} {ts : List (Int × Int)} (h : checkF ps scope = .inr ts) :
    wtL (planF ps).1 + ((planF ps).2.map wtL).sum ≤ ps.length ∧ aloneF (planF ps).1 = true ∧ (∀ l ∈ (planF ps).2, aloneF l = true) ∧ scanF (planF ps).1 0 = some (planF ps).2.length ∧ (planF ps).1 ≠ [] ∧ FitsP ⟨(planF ps).1, (planF ps).2⟩ := by
  have ht := typed_of h
  have hw := wf_of_shape (shape_of_valid ht.valid)
  have hpos := hw.pos
  have hp : ps[ps.length - 1]? = some ps[ps.length - 1] := List.getElem?_eq_getElem (by omega)
  have hl := hw.last
  rw [kindAt_nat ps _ _ hp] at hl
  have hg := good_cond ht ps.length (ps.length - 1) _ 0 hp (by simpa [isCondF] using hl)
  obtain ⟨new, ns, hG⟩ := write_good hg [] []
  have e := hG.eq
  have h1 := wt_whole ht.valid 0
  have h2 := hG.wt
  have h3 := hG.scan
  simp only [List.nil_append] at e
  simp only [List.length_nil, Nat.zero_add] at h3
  have hle := hw.le
  have fits : ∀ l : List PartD, wtL l ≤ 1000 → (∀ p ∈ l, p.kids.length ≤ 1000) → FitsL l := fun l hl hk => by
    have hlen := wtL_sum l
    refine ⟨by omega, fun p hp => ?_⟩
    have h1 : partWt p ≤ wtL l := by
      obtain ⟨i, hi⟩ := List.getElem?_of_mem hp
      have h2 := wtL_take l hi
      have h3 : wtL l = wtL (l.take (i + 1)) + wtL (l.drop (i + 1)) := by rw [← wtL_app, List.take_append_drop]
      omega
    have h2 := hk p hp
    simp only [partWt] at h1
    exact ⟨⟨by omega, by omega⟩, by omega⟩
  have hfit : FitsP ⟨new, ns⟩ := by
    refine ⟨fits new (by omega) fun p hp => by have := hG.kl.1 p hp; omega, ?_, fun l hl => ?_⟩
    · have h4 := (write_len (condF ps ps.length ((ps.length - 1 : Nat) : Int) 0) [] []).2
      have h5 := cnt_wt (condF ps ps.length ((ps.length - 1 : Nat) : Int) 0)
      rw [e] at h4
      simp only [List.length_nil, Nat.zero_add] at h4
      show ns.length ≤ 35184372088064
      omega
    · have h5 : ∀ m : List (List PartD), l ∈ m → wtL l ≤ (m.map wtL).sum := fun m => by
        induction m with
        | nil => intro h; cases h
        | cons x r ih =>
          intro h
          simp only [List.map_cons, List.sum_cons]
          rcases List.mem_cons.1 h with rfl | h
          · omega
          · have := ih h; omega
      have h6 := h5 ns hl
      exact fits l (by omega) fun p hp => by have := hG.kl.2 l hl p hp; omega
  unfold planF
  rw [e]
  exact ⟨by show wtL new + (ns.map wtL).sum ≤ ps.length; omega, hG.alone, hG.al, h3, hG.ne, hfit⟩
end Go.Proofs.YtldnkeackphilaaGreatDoor.X
namespace Go.Proofs.YtldnkeackphilaaGreatDoor.X
open Go.RowKit

set_option maxRecDepth 8000
set_option maxHeartbeats 1000000 in
theorem nValid_aux (p : PlanD) (hp : FitsP p) (res : Bool) (hr : Hid (res = (decide (wtL p.main + wtP p.sels ≤ 1000) && ((listF p.main false p.sels.length && p.sels.all fun l => listF l true 0) || (decide (p.sels.length = 0) && listF p.main true 0))))) : Has Tryz.prog 12 [.agg (planCs p)] (bA res) noTok := by
  refine fnX mixed ⟨[0, 1, 2, 3, 5, 8, 18, 19, 20, 21], [1, 13, 27, 40], [], [], []⟩ Tryz.func12 rfl rfl rfl (by kernel_rfl) rfl ?_
  have hlen := hp.len
  simp [planCs, partsA, selsA]
  refine callP_of (measured_h p hp) (by simp) (by simp) ?_
  simp
  refine ⟨fun hb => ?_, fun hb => ?_⟩
  · rw [hr.out, decide_eq_false (by omega)]; rfl
  have h1 := nList_h ⟨p.sels.length, true⟩ p.main hp.main
  simp only [partsA, lookA] at h1
  refine callP_of h1 (by simp) (by simp) ?_
  simp
  refine wF_loop [] [.slot 1 1] [1, 3, 18, 19, 20] (fun i : Nat => St.asc [(1, .ref 1 0), (3, bA (listF p.main false p.sels.length && (p.sels.take i).all fun l => listF l true 0)), (18, .sl (p.sels.map fun x => [.sl (x.map partCs)])), (19, iA p.sels.length), (20, iA i)] [(1, .box 25 [.sl (p.main.map partCs), .sl (p.sels.map fun x => [.sl (x.map partCs)])])] [(1, true)] false)
    (fun i => i ≤ p.sels.length) (fun i => p.sels.length - i) 0 _ (by simp) (by simp) (by simp) ?_
  intro i hi
  by_cases h : i < p.sels.length
  · have hx : p.sels[i]? = some p.sels[i] := List.getElem?_eq_getElem h
    have htk : p.sels.take (i + 1) = p.sels.take i ++ [p.sels[i]] := by rw [List.take_add_one, hx]; rfl
    have hf := hp.each p.sels[i] (List.getElem_mem h)
    obtain ⟨x, ex⟩ : ∃ x, x = p.sels[i] := ⟨_, rfl⟩
    rw [← ex] at hx hf htk
    have h1 : IntKind.i64.wrap ((i : Int) + 1) = (i : Int) + 1 := wrap64 (by omega) (by omega)
    obtain ⟨b, eb⟩ : ∃ b, b = (listF p.main false p.sels.length && (p.sels.take i).all fun l => listF l true 0) := ⟨_, rfl⟩
    rw [← eb]
    have h2 := nList_h ⟨0, false⟩ x hf
    simp only [partsA, lookA] at h2
    cases b
    · simp [hx, h, h1, -getElem?_pos]
      refine ⟨i + 1, ?_, by omega, by omega⟩
      rw [htk, List.all_append, ← Bool.and_assoc, ← eb]
      simp
    · simp [hx, h, h1, -getElem?_pos]
      refine .inr ?_
      refine callP_of h2 (by simp) (by simp) ?_
      simp [h1]
      refine ⟨i + 1, ?_, by omega, by omega⟩
      rw [htk, List.all_append, ← Bool.and_assoc, ← eb]
      simp
  · have : i = p.sels.length := by omega
    subst this
    rw [List.take_length]
    have hL := nList_h ⟨0, false⟩ p.main hp.main
    simp only [partsA, lookA] at hL
    have hr2 := hr.out
    have hle : decide (wtL p.main + wtP p.sels ≤ 1000) = true := decide_eq_true (by omega)
    rw [hle, Bool.true_and] at hr2
    generalize hc : (listF p.main false p.sels.length && p.sels.all fun l => listF l true 0) = c at *
    clear hr
    cases c
    · by_cases hz : p.sels.length = 0
      · have hz2 : ((p.sels.length : Int) == 0) = true := by simp [hz]
        simp [hz2]
        refine .inr ?_
        refine callP_of hL (by simp) (by simp) ?_
        simp
        rw [hr2]
        simp [hz]
      · have hz2 : ((p.sels.length : Int) == 0) = false := by simpa using hz
        simp [hz2]
        rw [hr2]
        simp [hz]
    · by_cases hz : p.sels.length = 0
      · have hz2 : ((p.sels.length : Int) == 0) = true := by simp [hz]
        simp [hz2]
        rw [hr2]
        simp
      · have hz2 : ((p.sels.length : Int) == 0) = false := by simpa using hz
        simp [hz2]
        rw [hr2]
        simp
theorem nValid_h (p : PlanD) (hp : FitsP p) : Has Tryz.prog 12 [.agg (planCs p)] (bA (planOkF p)) noTok := nValid_aux p hp _ (Lib.hid (plan_eq p))
end Go.Proofs.YtldnkeackphilaaGreatDoor.X
