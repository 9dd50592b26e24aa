/- berthref16.Valid's functions: terms. -/
import Derived.Test.YtldnkeackphilaaGreatDoorNv19
import Derived.Test.YtldnkeackphilaaGreatDoorNv8
import Derived.Test.YtldnkeackphilaaGreatDoorNv9
set_option linter.unusedSimpArgs false
set_option linter.unusedVariables false
namespace Go.Proofs.YtldnkeackphilaaGreatDoor
open Go.RowKit

theorem Tryz.mixed : Tryz.prog.follows .mixedOrders = true := by kernel_rfl
def sideF (s : Int) (pods : Bool) : Bool := s == 1 || (s == 3 && pods) || (s == 2 && !pods)
theorem side_h (s : Int) (pods : Bool) : Has Tryz.prog 145 [iA s, bA pods] (bA (sideF s pods)) noTok := by
  refine fnT Tryz.mixed [0, 1, 4] [] [] Tryz.func145 rfl rfl rfl (by kernel_rfl) rfl ?_
  simp [sideF] <;> rfl
def textF (t : TermD) : Bool := t.kind == 2 || t.kind == 3
theorem text_h (t : TermD) : Has Tryz.prog 146 [.agg (termCs t)] (bA (textF t)) noTok := by
  refine fnT Tryz.mixed [0, 1, 2] [] [] Tryz.func146 rfl rfl rfl (by kernel_rfl) rfl ?_
  simp [termCs, textF] <;> rfl
def numberF (t : TermD) : Bool := decide (t.kind ≥ 4) && decide (t.kind ≤ 6)
theorem number_h (t : TermD) : Has Tryz.prog 191 [.agg (termCs t)] (bA (numberF t)) noTok := by
  refine fnT Tryz.mixed [0, 1, 2] [] [] Tryz.func191 rfl rfl rfl (by kernel_rfl) rfl ?_
  simp [termCs, numberF]
def ofPodF (t : TermD) : Bool := t.kind == 1 || t.side == 1
theorem ofPod_h (t : TermD) : Has Tryz.prog 147 [.agg (termCs t)] (bA (ofPodF t)) noTok := by
  refine fnT Tryz.mixed [0, 1, 2] [] [] Tryz.func147 rfl rfl rfl (by kernel_rfl) rfl ?_
  simp [termCs, ofPodF] <;> rfl
def termF (t : TermD) (pods : Bool) (sels : Int) : Bool :=
  if t.key.size > 127 then false
  else if t.kind = 1 then t.side == 0 && t.sel == 0
  else if t.kind = 2 ∨ t.kind = 4 then sideF t.side pods && t.sel == 0
  else if t.kind = 3 then sideF t.side pods && t.sel == 0 && t.key.toList == []
  else if t.kind = 5 then !pods && t.side == 0 && t.sel == 0
  else if t.kind = 6 then !pods && t.side == 0 && decide (t.sel ≥ 0) && decide (t.sel < sels)
  else false
set_option maxRecDepth 8000 in
theorem term_h (t : TermD) (pods : Bool) (sels : Int) : Has Tryz.prog 141 [.agg (termCs t), bA pods, iA sels] (bA (termF t pods sels)) noTok := by
  refine fnT Tryz.mixed [0, 1, 2, 3, 6, 10, 12, 13, 23, 35, 51, 65] [] [] Tryz.func141 rfl rfl rfl (by kernel_rfl) rfl ?_
  simp [termCs]
  repeat' first
    | refine And.intro ?_ ?_
    | intro _
    | (refine callW_of (side_h _ _) ?_; simp)
  all_goals grind [termF]
end Go.Proofs.YtldnkeackphilaaGreatDoor
/- berthref16.Valid's functions: rows. -/
namespace Go.Proofs.YtldnkeackphilaaGreatDoor
open Go.RowKit

def leqS (x y : ByteArray) : Bool := Op.bytesLess x.toList y.toList || x.toList == y.toList
def textAt (l : List ByteArray) (i : Nat) : Bool := !decide ((l.getD i noText).size > 127) && !(decide (0 < i) && leqS (l.getD i noText) (l.getD (i - 1) noText))
def numAt (l : List Int) (i : Nat) : Bool := !(decide (l.getD i 0 < -999999999999999999) || decide (l.getD i 0 > 999999999999999999)) && !(decide (0 < i) && decide (l.getD i 0 ≤ l.getD (i - 1) 0))
def risingNumsF (l : List Int) : Bool := (List.range l.length).all (numAt l)
def risingTextsF (l : List ByteArray) : Bool := (List.range l.length).all (textAt l)
theorem all_upto {n : Nat} {f : Nat → Bool} : ((List.range (n + 1)).all f) = ((List.range n).all f && f n) := by
  simp [List.range_succ]
theorem all_false {n i : Nat} {f : Nat → Bool} (hi : i < n) (h : f i = false) : (List.range n).all f = false := by
  rw [Bool.eq_false_iff]
  intro ha
  rw [List.all_eq_true] at ha
  have := ha i (List.mem_range.2 hi)
  rw [h] at this
  cases this
theorem ex_at {α : Type} {l : List α} {i : Nat} (h : i < l.length) : ∃ x, l[i]? = some x := ⟨_, List.getElem?_eq_getElem h⟩
/-- It holds so far. -/
def Upto (f : Nat → Bool) (i : Nat) : Prop := (List.range i).all f = true
theorem Upto.zero (f : Nat → Bool) : Upto f 0 := rfl
theorem Upto.next {f : Nat → Bool} {i : Nat} (hok : Upto f i) (hf : f i = true) : Upto f (i + 1) := by
  unfold Upto at *
  rw [all_upto, hok, hf]
  rfl
theorem wrapN {n : Nat} (h : n ≤ 35184372088064) : IntKind.i64.wrap ((n : Int) + 1) = (n : Int) + 1 := wrap64 (by omega) (by omega)
theorem wrapP {n : Nat} (h : n ≤ 35184372088064) : IntKind.i64.wrap ((n : Int) - 1) = (n : Int) - 1 := wrap64 (by omega) (by omega)
set_option maxRecDepth 8000 in
theorem risingTexts_h (l : List ByteArray) (hl : l.length ≤ 35184372088064) : Has Tryz.prog 190 [strsA l] (bA (risingTextsF l)) noTok := by
  refine fnT Tryz.mixed [0, 2, 3, 7, 31] [] [] Tryz.func190 rfl rfl rfl (by kernel_rfl) rfl ?_
  simp [strsA]
  refine wF_loop [0, 2, 3] (fun i : Nat => St.asc [(0, .sl (l.map fun s => [sA s]), [none]), (2, bA false, []), (3, iA i, [])]) (fun i => i ≤ l.length ∧ Upto (textAt l) i) (fun i => l.length - i) 0 _ (by simp) (by simp [Upto.zero]) ?_
  rintro i ⟨hi, hok⟩
  by_cases h : i < l.length
  · obtain ⟨y, hy⟩ := ex_at (l := l) (i := i - 1) (by omega)
    have hu : ((i : Int) - 1).toNat = i - 1 := by omega
    have ht : textAt l i = (!decide (l[i].size > 127) && !(decide (0 < i) && leqS l[i] y)) := by simp [textAt, hy, h]
    simp [hy, h, wrapN (Nat.le_trans hi hl), wrapP (Nat.le_trans hi hl), hu]
    generalize l[i] = x at ht ⊢
    and_intros
    · omega
    · intro hc
      exact all_false h (by rw [ht]; simp [leqS]; grind)
    · intro h1 h2
      exact ⟨i + 1, by simp, ⟨by omega, hok.next (by rw [ht]; simp [leqS]; grind)⟩, by omega⟩
  · have : i = l.length := by omega
    subst this
    simp
    exact hok
set_option maxRecDepth 8000 in
theorem risingNums_h (l : List Int) (hl : l.length ≤ 35184372088064) : Has Tryz.prog 192 [intsA l] (bA (risingNumsF l)) noTok := by
  refine fnT Tryz.mixed [0, 2, 3, 7, 37] [] [] Tryz.func192 rfl rfl rfl (by kernel_rfl) rfl ?_
  simp [intsA]
  refine wF_loop [0, 2, 3] (fun i : Nat => St.asc [(0, .sl (l.map fun s => [iA s]), [none]), (2, bA false, []), (3, iA i, [])]) (fun i => i ≤ l.length ∧ Upto (numAt l) i) (fun i => l.length - i) 0 _ (by simp) (by simp [Upto.zero]) ?_
  rintro i ⟨hi, hok⟩
  by_cases h : i < l.length
  · obtain ⟨y, hy⟩ := ex_at (l := l) (i := i - 1) (by omega)
    have hu : ((i : Int) - 1).toNat = i - 1 := by omega
    have ht : numAt l i = (!(decide (l[i] < -999999999999999999) || decide (l[i] > 999999999999999999)) && !(decide (0 < i) && decide (l[i] ≤ y))) := by simp [numAt, hy, h]
    simp [hy, h, wrapN (Nat.le_trans hi hl), wrapP (Nat.le_trans hi hl), hu]
    generalize l[i] = x at ht ⊢
    and_intros
    · omega
    · intro hc
      exact all_false h (by rw [ht]; simp; grind)
    · intro h1 h2 h3
      exact ⟨i + 1, by simp, ⟨by omega, hok.next (by rw [ht]; simp; grind)⟩, by omega⟩
  · have : i = l.length := by omega
    subst this
    simp
    exact hok
end Go.Proofs.YtldnkeackphilaaGreatDoor
/- berthref16.Valid's functions: literals. -/
namespace Go.Proofs.YtldnkeackphilaaGreatDoor
open Go.RowKit

def eqT (a b : TermD) : Bool := a.kind == b.kind && (a.side == b.side && (a.key.toList == b.key.toList && a.sel == b.sel))
def restF (l : LitD) (sets rel num other of_ key : Bool) : Bool :=
  !(!sets && (decide (l.texts.length > 0) || decide (l.nums.length > 0))) &&
  !((!rel && l.rel != 0) || (!num && l.num != 0) || (!other && !(eqT l.other .zero))) &&
  ((of_ || l.of_ == 0) && (key || (l.key.toList == [] && l.sel == 0)))
theorem noText_l : noText.toList = [] := by simp [noText]
set_option maxRecDepth 8000 in
theorem rest_h (l : LitD) (sets rel num other of_ key : Bool) : Has Tryz.prog 140 [.agg (litCs l), bA sets, bA rel, bA num, bA other, bA of_, bA key] (bA (restF l sets rel num other of_ key)) noTok := by
  refine fnT Tryz.mixed [0, 1, 2, 3, 4, 5, 6, 7, 14, 28, 54] [] [] Tryz.func140 rfl rfl rfl (by kernel_rfl) rfl ?_
  simp [litCs, strsA, intsA]
  simp only [restF, eqT, TermD.zero, noText_l]
  generalize l.other.key.toList = K
  generalize l.key.toList = K2
  generalize l.texts = T
  generalize l.nums = U
  generalize l.other.kind = A1
  generalize l.other.side = A2
  generalize l.other.sel = A3
  rcases T with _ | ⟨t, T⟩ <;> rcases U with _ | ⟨u, U⟩ <;> cases sets <;> cases rel <;> cases num <;> cases other <;> simp <;> grind
/-- Its lists are of a size that there is. -/
def LitD.fits (l : LitD) : Prop := l.texts.length ≤ 35184372088064 ∧ l.nums.length ≤ 35184372088064
def inF (l : LitD) : Bool := if textF l.term then l.nums.length == 0 && risingTextsF l.texts else numberF l.term && l.texts.length == 0 && risingNumsF l.nums
set_option maxRecDepth 8000 in
theorem in_h (l : LitD) (hl : l.fits) : Has Tryz.prog 142 [.agg (litCs l)] (bA (inF l)) noTok := by
  refine fnT Tryz.mixed [0, 1, 2, 5] [] [] Tryz.func142 rfl rfl rfl (by kernel_rfl) rfl ?_
  simp [litCs, strsA, intsA]
  repeat' first
    | refine And.intro ?_ ?_
    | intro _
    | (refine callW_of (text_h l.term) ?_; simp)
    | (refine callW_of (number_h l.term) ?_; simp)
    | (refine callG_of (fun _ => risingTexts_h l.texts hl.1) rfl ?_; simp)
    | (refine callG_of (fun _ => risingNums_h l.nums hl.2) rfl ?_; simp)
  all_goals grind [inF]
def relF (l : LitD) : Bool := numberF l.term && (if l.rel = 4 then decide (l.num ≥ -1000000000000000000) && decide (l.num ≤ 999999999999999999) else l.rel == 6 && decide (l.num ≥ -999999999999999999) && decide (l.num ≤ 1000000000000000000))
set_option maxRecDepth 8000 in
theorem rel_h (l : LitD) : Has Tryz.prog 143 [.agg (litCs l)] (bA (relF l)) noTok := by
  refine fnT Tryz.mixed [0, 1, 2, 6, 9] [] [] Tryz.func143 rfl rfl rfl (by kernel_rfl) rfl ?_
  simp [litCs, strsA, intsA]
  repeat' first
    | refine And.intro ?_ ?_
    | intro _
    | (refine callW_of (number_h l.term) ?_; simp)
  all_goals grind [relF]
def podF (l : LitD) : Bool := l.other.side == 1 && (if textF l.term then l.rel == 1 && textF l.other else numberF l.term && l.other.kind == 4 && decide (l.rel ≥ 1) && decide (l.rel ≤ 6) && l.rel != 2)
set_option maxRecDepth 8000 in
theorem pod_h (l : LitD) : Has Tryz.prog 144 [.agg (litCs l)] (bA (podF l)) noTok := by
  refine fnT Tryz.mixed [0, 1, 2, 6, 9] [] [] Tryz.func144 rfl rfl rfl (by kernel_rfl) rfl ?_
  simp [litCs, strsA, intsA]
  repeat' first
    | refine And.intro ?_ ?_
    | intro _
    | (refine callW_of (text_h l.term) ?_; simp)
    | (refine callW_of (number_h l.term) ?_; simp)
    | (refine callG_of (fun _ => text_h l.other) rfl ?_; simp)
  all_goals grind [podF]
def zeroF (l : LitD) : Bool := l.kind == 0 && eqT l.term .zero && restF l false false false false false false
set_option maxRecDepth 8000 in
theorem zero_h (l : LitD) : Has Tryz.prog 96 [.agg (litCs l)] (bA (zeroF l)) noTok := by
  refine fnT Tryz.mixed [0, 1, 2] [] [] Tryz.func96 rfl rfl rfl (by kernel_rfl) rfl ?_
  simp [litCs, strsA, intsA]
  repeat' first
    | refine And.intro ?_ ?_
    | intro _
    | (refine callG_of (fun _ => rest_h l false false false false false false) rfl ?_; simp)
  all_goals simp only [zeroF, eqT, TermD.zero, noText_l] <;> grind
end Go.Proofs.YtldnkeackphilaaGreatDoor
/- berthref16.Valid's functions: Lit, measures. -/
namespace Go.Proofs.YtldnkeackphilaaGreatDoor
open Go.RowKit

def litF (l : LitD) (pods : Bool) (sels : Int) : Bool :=
  if l.key.size > 127 then false
  else if l.kind = 6 ∨ l.kind = 7 then
    !(pods || !(eqT l.term .zero) || !(restF l false false false false false true)) && (if l.kind = 6 then l.sel == 0 else decide (l.sel ≥ 0) && decide (l.sel < sels))
  else termF l.term pods sels && (
    if l.kind = 1 then inF l && restF l true false false false false false
    else if l.kind = 2 then relF l && restF l false true true false false false
    else if l.kind = 3 then termF l.other pods sels && podF l && restF l false true false true false false
    else if l.kind = 4 then !(!(sideF l.of_ pods) || (l.term.kind != 1 && !textF l.term)) && (l.of_ == 1 || ofPodF l.term) && restF l false false false false true false
    else if l.kind = 5 then !pods && (l.term.kind == 1 || textF l.term) && ofPodF l.term && restF l false false false false false false
    else false)
set_option maxRecDepth 8000 in
set_option maxHeartbeats 1000000 in
theorem lit_h (l : LitD) (hl : l.fits) (pods : Bool) (sels : Int) : Has Tryz.prog 95 [.agg (litCs l), bA pods, iA sels] (bA (litF l pods sels)) noTok := by
  refine fnT Tryz.mixed [0, 1, 2, 3, 6, 7, 11, 19, 31, 33, 51, 52, 53, 61, 69, 84, 102, 115] [] [] Tryz.func95 rfl rfl rfl (by kernel_rfl) rfl ?_
  simp [litCs, strsA, intsA]
  repeat' first
    | refine And.intro ?_ ?_
    | intro _
    | (refine callG_of (fun _ => rest_h l _ _ _ _ _ _) rfl ?_; simp)
    | (refine callW_of (term_h l.term _ _) ?_; simp)
    | (refine callW_of (term_h l.other _ _) ?_; simp)
    | (refine callW_of (in_h l hl) ?_; simp)
    | (refine callW_of (rel_h l) ?_; simp)
    | (refine callG_of (fun _ => pod_h l) rfl ?_; simp)
    | (refine callW_of (side_h _ _) ?_; simp)
    | (refine callG_of (fun _ => text_h l.term) rfl ?_; simp)
    | (refine callG_of (fun _ => ofPod_h l.term) rfl ?_; simp)
  all_goals simp only [litF, eqT, TermD.zero, noText_l]
  all_goals grind
end Go.Proofs.YtldnkeackphilaaGreatDoor
/- berthref16.Valid's functions: measures. -/
namespace Go.Proofs.YtldnkeackphilaaGreatDoor
open Go.RowKit

def PartD.fits (p : PartD) : Prop := p.lit.fits ∧ p.kids.length ≤ 35184372088064
structure FitsL (l : List PartD) : Prop where
  len : l.length ≤ 4398046511104
  each : ∀ p ∈ l, p.fits
def partWt (p : PartD) : Nat := 1 + p.lit.texts.length + p.lit.nums.length
/-- Counted up to one more than there may be. -/
def measF : List PartD → Nat → Nat
  | [], n => n
  | p :: l, n => if n ≤ 1000 then measF l (n + partWt p) else n
theorem drop_at {α : Type} {l : List α} {i : Nat} {x : α} (h : l[i]? = some x) : l.drop i = x :: l.drop (i + 1) := by
  obtain ⟨h1, h2⟩ := List.getElem?_eq_some_iff.1 h
  rw [List.drop_eq_getElem_cons h1, h2]
set_option maxRecDepth 8000 in
theorem measure_h (l : List PartD) (hl : FitsL l) : Has Tryz.prog 94 [partsA l] (iA (measF l 0)) noTok := by
  refine fnT Tryz.mixed [0, 2, 3, 4, 12] [] [] Tryz.func94 rfl rfl rfl (by kernel_rfl) rfl ?_
  simp [partsA]
  refine wF_loop [0, 2, 3, 4] (fun x : Nat × Nat => St.asc [(0, .sl (l.map partCs), [none]), (2, iA 0, []), (3, iA x.2, []), (4, iA x.1, [])]) (fun x => x.1 ≤ l.length ∧ x.2 ≤ 1000 + 70368744176129 ∧ measF (l.drop x.1) x.2 = measF l 0) (fun x => l.length - x.1) (0, 0) _ (by simp) (by simp) ?_
  rintro ⟨i, n⟩ ⟨hi, hn, hm⟩
  have hlen := hl.len
  simp only at hi hn hm
  by_cases h : i < l.length
  · have hx : l[i]? = some l[i] := List.getElem?_eq_getElem h
    have hf := hl.each l[i] (List.getElem_mem h)
    rw [drop_at hx, measF] at hm
    generalize l[i] = x at *
    have h1 : IntKind.i64.wrap ((i : Int) + 1) = (i : Int) + 1 := wrap64 (by omega) (by omega)
    have h2 : IntKind.i64.wrap ((n : Int) + 1) = (n : Int) + 1 := wrap64 (by omega) (by omega)
    have hf1 := hf.1.1
    have hf2 := hf.1.2
    have h3 : IntKind.i64.wrap ((n : Int) + 1 + x.lit.texts.length) = (n : Int) + 1 + x.lit.texts.length := wrap64 (by omega) (by omega)
    have h4 : IntKind.i64.wrap ((n : Int) + 1 + x.lit.texts.length + x.lit.nums.length) = (n : Int) + 1 + x.lit.texts.length + x.lit.nums.length := wrap64 (by omega) (by omega)
    simp [hx, h1, h2, h3, h4, partCs, strsA, intsA]
    refine ⟨fun _ hn' => ⟨h, i + 1, n + partWt x, ?_, ⟨by omega, by simp only [partWt]; omega, ?_⟩, by omega⟩, fun hb => ?_⟩
    · rw [show (((n + partWt x : Nat)) : Int) = (n : Int) + 1 + x.lit.texts.length + x.lit.nums.length by simp only [partWt]; omega]
      rfl
    · rw [if_pos (by omega)] at hm
      exact hm
    · rw [if_neg (by have := hb h; omega)] at hm
      omega
  · have : i = l.length := by omega
    subst this
    simp
    rw [List.drop_length] at hm
    simp only [measF] at hm
    omega
def measP : List (List PartD) → Nat → Nat
  | [], n => n
  | l :: ls, n => if n ≤ 1000 then measP ls (n + measF l 0) else n
def measureF (p : PlanD) : Nat := if measP p.sels (measF p.main 0) > 1000 then 1001 else measP p.sels (measF p.main 0)
structure FitsP (p : PlanD) : Prop where
  main : FitsL p.main
  len : p.sels.length ≤ 35184372088064
  each : ∀ l ∈ p.sels, FitsL l
theorem measF_le : ∀ (l : List PartD) (n : Nat), FitsL l → n ≤ 1000 + 70368744176129 → measF l n ≤ 1000 + 70368744176129
  | [], n, _, h => h
  | p :: l, n, hl, h => by
    rw [measF]
    split
    · next h1 =>
      have hp := hl.each p (by simp)
      have := hp.1.1
      have := hp.1.2
      exact measF_le l _ ⟨by have := hl.len; simp at this; omega, fun q hq => hl.each q (by simp [hq])⟩ (by simp only [partWt]; omega)
    · exact h
set_option maxRecDepth 8000 in
theorem measureP_h (p : PlanD) (hp : FitsP p) : Has Tryz.prog 54 [.agg (planCs p)] (iA (measureF p)) noTok := by
  refine fnT Tryz.mixed [0, 1, 2, 3, 4, 5, 17, 30] [] [] Tryz.func54 rfl rfl rfl (by kernel_rfl) rfl ?_
  simp [planCs, partsA, selsA]
  refine callW_of (measure_h p.main hp.main) ?_
  simp
  refine wF_loop [0, 1, 2, 3, 4] (fun x : Nat × Nat => St.asc [(0, .agg (planCs p), [none, none, none]), (1, .box 25 (planCs p), [none, none, none]), (2, iA 0, []), (3, iA x.2, []), (4, iA x.1, [])]) (fun x => x.1 ≤ p.sels.length ∧ x.2 ≤ 1000 + 1000 + 70368744176129 ∧ measP (p.sels.drop x.1) x.2 = measP p.sels (measF p.main 0)) (fun x => p.sels.length - x.1) (0, measF p.main 0) _ (by simp [planCs, partsA, selsA]) (by simp; have := measF_le p.main 0 hp.main (by omega); omega) ?_
  rintro ⟨i, n⟩ ⟨hi, hn, hm⟩
  have hlen := hp.len
  simp only at hi hn hm
  by_cases h : i < p.sels.length
  · have hx : p.sels[i]? = some p.sels[i] := List.getElem?_eq_getElem h
    have hf := hp.each p.sels[i] (List.getElem_mem h)
    rw [drop_at hx, measP] at hm
    have hmb := measF_le p.sels[i] 0 hf (by omega)
    generalize p.sels[i] = x at *
    have h1 : IntKind.i64.wrap ((i : Int) + 1) = (i : Int) + 1 := wrap64 (by omega) (by omega)
    have h2 : IntKind.i64.wrap ((n : Int) + (measF x 0 : Nat)) = (n : Int) + (measF x 0 : Nat) := wrap64 (by omega) (by omega)
    simp [planCs, partsA, selsA, hx, h1]
    refine ⟨fun _ hn' => ⟨h, callW_of (measure_h x hf) ?_⟩, fun hb => ?_⟩
    · simp [h1, h2]
      rw [if_pos (by omega)] at hm
      exact ⟨i + 1, n + measF x 0, by simp [planCs, partsA, selsA], ⟨by omega, by omega, hm⟩, by omega⟩
    · have hb' : ¬ n ≤ 1000 := by have := hb h; omega
      rw [if_neg hb'] at hm
      simp only [measureF, ← hm]
      split <;> omega
  · have : i = p.sels.length := by omega
    subst this
    rw [List.drop_length] at hm
    simp only [measP] at hm
    simp [planCs, partsA, selsA]
    simp only [measureF, ← hm]
    split <;> omega
end Go.Proofs.YtldnkeackphilaaGreatDoor
/- berthref16.Valid's functions: a list. -/
namespace Go.Proofs.YtldnkeackphilaaGreatDoor
open Go.RowKit

/-- May the part stand behind these that are free? -/
def stepOk (pods : Bool) (sels : Int) (free : List Int) (p : PartD) : Bool :=
  let joins := p.kind == 3 || p.kind == 4
  !(decide (p.kind < 1) || decide (p.kind > 5) || decide (p.kids.length > free.length) || (joins != decide (p.kids.length ≥ 2)) || (!joins && decide (p.kids.length > 0))) &&
  !(p.kind == 5 && !litF p.lit pods sels) && !(p.kind != 5 && (p.neg || !zeroF p.lit)) &&
  (p.kids == free.drop (free.length - p.kids.length))
def stepF (free : List Int) (i : Nat) (p : PartD) : List Int := free.take (free.length - p.kids.length) ++ [(i : Int)]
/-- What is free behind the first parts, if they may stand. -/
def freeF (pods : Bool) (sels : Int) : List PartD → Nat → List Int → Option (List Int)
  | [], _, free => some free
  | p :: l, i, free => if stepOk pods sels free p then freeF pods sels l (i + 1) (stepF free i p) else none
def listF (l : List PartD) (pods : Bool) (sels : Int) : Bool := match freeF pods sels l 0 [] with
  | some free => free.length == 1
  | none => false
set_option maxRecDepth 8000 in
set_option maxHeartbeats 1000000 in
theorem list_h (l : List PartD) (hl : FitsL l) (pods : Bool) (sels : Int) : Has Tryz.prog 55 [partsA l, bA pods, iA sels] (bA (listF l pods sels)) noTok := by
  refine fnT Tryz.mixed [0, 1, 2, 6, 7, 8, 9, 10, 11, 12, 13, 17, 63, 73, 85, 96, 110] [116] [(24, 9), (39, 9), (48, 9), (58, 9), (67, 9), (77, 9), (80, 9), (88, 9), (93, 9), (99, 9)] Tryz.func55 rfl rfl rfl (by kernel_rfl) rfl ?_
  simp [partsA]
  refine wF_loop [0, 1, 2, 6, 7, 8] (fun x : Nat × List Int × Option (Option TypeId) => St.asc [(0, .sl (l.map partCs), [none]), (1, bA pods, []), (2, iA sels, []), (6, bA false, []), (7, intsA x.2.1, [x.2.2]), (8, iA x.1, [])])
    (fun x => x.1 ≤ l.length ∧ x.2.1.length ≤ x.1 ∧ freeF pods sels (l.drop x.1) x.1 x.2.1 = freeF pods sels l 0 []) (fun x => l.length - x.1) (0, [], some none) _ (by simp [intsA]) (by simp) ?_
  rintro ⟨i, free, tk⟩ ⟨hi, hn, hm⟩
  have hlen := hl.len
  simp only at hi hn hm
  by_cases h : i < l.length
  · have hx : l[i]? = some l[i] := List.getElem?_eq_getElem h
    have hf := hl.each l[i] (List.getElem_mem h)
    rw [drop_at hx, freeF] at hm
    generalize l[i] = x at *
    have h1 : IntKind.i64.wrap ((i : Int) + 1) = (i : Int) + 1 := wrap64 (by omega) (by omega)
    have hbad : stepOk pods sels free x = false → listF l pods sels = false := fun hb => by
      rw [hb] at hm
      simp only [listF, ← hm]
      rfl
    simp [hx, h, h1, partCs, strsA, intsA, -getElem?_pos]
    refine ⟨fun hb => hbad ?_, fun b1 b2 b3 b4 b5 => ?_⟩
    · simp only [stepOk]
      have e1 : (decide (x.kids.length ≥ 2)) = decide (2 ≤ (x.kids.length : Int)) := decide_eq_decide.2 (by omega)
      rw [e1]
      revert hb
      generalize decide (2 ≤ (x.kids.length : Int)) = B
      generalize zeroF x.lit = Z
      generalize litF x.lit pods sels = F
      generalize (x.kids == free.drop (free.length - x.kids.length)) = D
      intro hb
      grind
    refine callG_of (fun _ => lit_h x.lit hf.1 pods sels) rfl ?_
    simp [h1, -getElem?_pos]
    refine ⟨fun c1 c2 => hbad (by simp [stepOk, c1, c2]), fun b6 => ?_⟩
    refine callG_of (fun _ => zero_h x.lit) rfl ?_
    simp [h1, -getElem?_pos]
    refine ⟨fun c1 c2 => hbad (by simp only [stepOk]; rcases c2 with c2 | c2 <;> simp [c1, c2]), fun b7 => ?_⟩
    have h2 : IntKind.i64.wrap ((free.length : Int) - x.kids.length) = (free.length : Int) - x.kids.length := wrap64 (by omega) (by omega)
    have hk := hf.2
    refine wF_loop [0, 1, 2, 6, 7, 8, 9, 12, 13] (fun j : Nat => St.asc [(0, .sl (l.map partCs), [none]), (1, bA pods, []), (2, iA sels, []), (6, bA false, []), (7, intsA free, [tk]), (8, iA i, []), (9, .box 63 (partCs x), [none, none, none, none, none, none, none, none, none, none, none, none, none, none, none, none, none, none, none, none]), (12, iA ((free.length : Int) - x.kids.length), []), (13, iA j, [])])
      (fun j => j ≤ x.kids.length ∧ x.kids.take j = (free.drop (free.length - x.kids.length)).take j) (fun j => x.kids.length - j) 0 _ (by simp [h2, partCs, strsA, intsA]) (by simp) ?_
    rintro j ⟨hj, hjm⟩
    by_cases hjl : j < x.kids.length
    · have hy : x.kids[j]? = some x.kids[j] := List.getElem?_eq_getElem hjl
      have hz : free[free.length - x.kids.length + j]? = some free[free.length - x.kids.length + j] := List.getElem?_eq_getElem (by omega)
      generalize x.kids[j] = y at *
      generalize free[free.length - x.kids.length + j] = z at *
      have h3 : IntKind.i64.wrap ((free.length : Int) - x.kids.length + j) = (free.length : Int) - x.kids.length + j := wrap64 (by omega) (by omega)
      have h4 : ((free.length : Int) - x.kids.length + j).toNat = free.length - x.kids.length + j := by omega
      have h5 : IntKind.i64.wrap ((j : Int) + 1) = (j : Int) + 1 := wrap64 (by omega) (by omega)
      simp [partCs, strsA, intsA, hjl, hy, hz, h3, h4, h5, -getElem?_pos]
      have hzd : (free.drop (free.length - x.kids.length))[j]? = some z := by rw [List.getElem?_drop]; exact hz
      refine ⟨by omega, fun hne => hbad ?_, fun he => ⟨j + 1, rfl, ⟨by omega, ?_⟩, by omega⟩⟩
      · have : (x.kids == free.drop (free.length - x.kids.length)) = false := by
          rw [Bool.eq_false_iff]
          intro hc
          have hc := eq_of_beq hc
          rw [← hc, hy] at hzd
          injection hzd with hzd
          exact hne hzd
        simp only [stepOk, this, Bool.and_false]
      · rw [List.take_add_one, List.take_add_one, hjm, hy, hzd, he]
    · have : j = x.kids.length := by omega
      subst this
      have h6 : ((free.length : Int) - x.kids.length).toNat = free.length - x.kids.length := by omega
      have hkd : x.kids = free.drop (free.length - x.kids.length) := by
        rw [List.take_length, List.take_of_length_le (by rw [List.length_drop]; omega)] at hjm
        exact hjm
      have hgood : stepOk pods sels free x = true := by
        have hd : (x.kids == free.drop (free.length - x.kids.length)) = true := beq_iff_eq.2 hkd
        have hk5 : x.kind = 5 ∨ ¬ x.kind = 5 := Decidable.em _
        have e1 : (decide (x.kids.length ≥ 2)) = decide (2 ≤ (x.kids.length : Int)) := decide_eq_decide.2 (by omega)
        have b5' : ¬x.kind = 3 → ¬x.kind = 4 → x.kids.length = 0 := fun h1 h2 => by rw [b5 h1 h2]; rfl
        simp only [stepOk, hd, e1]
        clear hm hbad hjm hkd hd e1 h6 b5
        generalize decide (2 ≤ (x.kids.length : Int)) = B at *
        generalize zeroF x.lit = Z at *
        generalize litF x.lit pods sels = F at *
        generalize x.kids.length = K at *
        grind
      rw [if_pos hgood] at hm
      simp [partCs, strsA, intsA, h1, h6, -getElem?_pos]
      have hmem : ∀ e ∈ List.take (free.length - x.kids.length) (List.map (fun n => [iA n]) free), e.length = 1 := fun e he => by
        have := List.mem_of_mem_take he
        simp only [List.mem_map] at this
        obtain ⟨n, -, rfl⟩ := this
        rfl
      refine ⟨⟨by omega, by omega⟩, hmem, by omega, by omega, hmem, by omega, by omega, i + 1, stepF free i x, ⟨some (some 3), ?_⟩, ⟨by omega, by simp [stepF]; omega, hm⟩, by omega⟩
      simp [stepF]
  · have : i = l.length := by omega
    subst this
    rw [List.drop_length] at hm
    simp [intsA]
    simp only [listF, ← hm, freeF]
    rw [Bool.eq_iff_iff]
    simp
    omega
end Go.Proofs.YtldnkeackphilaaGreatDoor
/- berthref16.Valid: whole. -/
namespace Go.Proofs.YtldnkeackphilaaGreatDoor
open Go.RowKit

def selAt (p : PlanD) (i : Nat) : Bool := listF (p.sels.getD i []) true 0
def forF (p : PlanD) (pods : Bool) : Bool := !(decide (measureF p > 1000) || (pods && decide (p.sels.length > 0))) && listF p.main pods p.sels.length && (List.range p.sels.length).all (selAt p)
set_option maxRecDepth 8000 in
theorem for_h (p : PlanD) (hp : FitsP p) (pods : Bool) : Has Tryz.prog 32 [.agg (planCs p), bA pods] (bA (forF p pods)) noTok := by
  refine fnT Tryz.mixed [0, 1, 2, 4, 5, 17, 25, 30, 39] [] [] Tryz.func32 rfl rfl rfl (by kernel_rfl) rfl ?_
  simp [planCs, partsA, selsA]
  refine callW_of (measureP_h p hp) ?_
  simp [partsA, selsA]
  refine ⟨?_, fun c1 c2 => callW_of (list_h p.main hp.main pods p.sels.length) ?_⟩
  · intro h
    simp only [forF]
    grind
  simp
  refine ⟨fun h => by simp [forF, h], fun h0 => ?_⟩
  have hlen := hp.len
  refine wF_loop [0, 1, 2, 4, 5] (fun i : Nat => St.asc [(0, .agg (planCs p), [none, none, none]), (1, bA pods, []), (2, .box 25 (planCs p), [none, none, none]), (4, bA false, []), (5, iA i, [])]) (fun i => i ≤ p.sels.length ∧ Upto (selAt p) i) (fun i => p.sels.length - i) 0 _ (by simp [planCs, partsA, selsA]) (by simp [Upto.zero]) ?_
  rintro i ⟨hi, hok⟩
  by_cases h : i < p.sels.length
  · have hx : p.sels[i]? = some p.sels[i] := List.getElem?_eq_getElem h
    have hf := hp.each p.sels[i] (List.getElem_mem h)
    generalize p.sels[i] = x at *
    have hs : selAt p i = listF x true 0 := by simp [selAt, hx]
    have h1 : IntKind.i64.wrap ((i : Int) + 1) = (i : Int) + 1 := wrap64 (by omega) (by omega)
    simp [planCs, partsA, selsA, hx, h, h1, -getElem?_pos]
    refine callW_of (list_h x hf true 0) ?_
    simp [h1]
    refine ⟨fun hb => ?_, fun hb => ⟨i + 1, by simp [planCs, partsA, selsA], ⟨by omega, hok.next (by rw [hs, hb])⟩, by omega⟩⟩
    have := all_false (f := selAt p) h (by rw [hs, hb])
    simp only [forF, this, Bool.and_false]
  · have : i = p.sels.length := by omega
    subst this
    simp [planCs, partsA, selsA]
    have hok' : (List.range p.sels.length).all (selAt p) = true := hok
    simp only [forF, hok', h0]
    grind
def planOkF (p : PlanD) : Bool := forF p false || forF p true
theorem valid_h (p : PlanD) (hp : FitsP p) : Has Tryz.prog 11 [.agg (planCs p)] (bA (planOkF p)) noTok := by
  refine fnT Tryz.mixed [0, 1, 2] [] [] Tryz.func11 rfl rfl rfl (by kernel_rfl) rfl ?_
  simp [planCs, partsA, selsA]
  refine callW_of (for_h p hp false) ?_
  simp
  refine callG_of (fun _ => for_h p hp true) rfl ?_
  simp [planOkF] <;> rfl
end Go.Proofs.YtldnkeackphilaaGreatDoor
/- norm.Valid's functions: terms. -/
namespace Go.Proofs.YtldnkeackphilaaGreatDoor
open Go.RowKit

/-- A looker. -/
structure LookD where
  sels : Int
  node : Bool
def lookA (w : LookD) : AV := .ptr [iA w.sels, bA w.node]
def moverF (w : LookD) : Int := if w.node then 2 else 3
set_option maxRecDepth 8000 in
theorem mover_h (w : LookD) : Has Tryz.prog 197 [lookA w] (iA (moverF w)) noTok := by
  refine fnT Tryz.mixed [0, 1, 2, 6] [] [] Tryz.func197 rfl rfl rfl (by kernel_rfl) rfl ?_
  simp [lookA]
  all_goals grind [moverF]
def placeF (w : LookD) (sel : Int) : Bool := decide (sel ≥ 0) && decide (sel < w.sels)
theorem place_h (w : LookD) (sel : Int) : Has Tryz.prog 166 [lookA w, iA sel] (bA (placeF w sel)) noTok := by
  refine fnT Tryz.mixed [0, 1, 2, 3, 4] [] [] Tryz.func166 rfl rfl rfl (by kernel_rfl) rfl ?_
  simp [lookA, placeF]
theorem fitsText_h (s : ByteArray) : Has Tryz.prog 159 [sA s] (bA (decide (s.size ≤ 127))) noTok := by
  refine fnT Tryz.mixed [0, 1, 2] [] [] Tryz.func159 rfl rfl rfl (by kernel_rfl) rfl ?_
  simp
  all_goals grind
def fitsNumF (n : Int) : Bool := decide (n ≥ -999999999999999999) && decide (n ≤ 999999999999999999)
theorem fitsNum_h (n : Int) : Has Tryz.prog 162 [iA n] (bA (fitsNumF n)) noTok := by
  refine fnT Tryz.mixed [0, 1, 2] [] [] Tryz.func162 rfl rfl rfl (by kernel_rfl) rfl ?_
  simp [fitsNumF]
def plainTextF (t : TermD) : Bool := t.kind == 1 && t.side == 0 && t.sel == 0 && decide (t.key.size ≤ 127)
set_option maxRecDepth 8000 in
theorem plainText_h (t : TermD) : Has Tryz.prog 165 [.agg (termCs t)] (bA (plainTextF t)) noTok := by
  refine fnT Tryz.mixed [0, 1, 2] [] [] Tryz.func165 rfl rfl rfl (by kernel_rfl) rfl ?_
  simp [termCs]
  all_goals grind [plainTextF]
def textTermF (w : LookD) (t : TermD) : Bool := !(t.sel != 0 || (t.side != 1 && t.side != moverF w)) && ((t.kind == 2 && decide (t.key.size ≤ 127)) || (t.kind == 3 && t.key.toList == []))
set_option maxRecDepth 8000 in
theorem textTerm_h (w : LookD) (t : TermD) : Has Tryz.prog 157 [lookA w, .agg (termCs t)] (bA (textTermF w t)) noTok := by
  refine fnT Tryz.mixed [0, 1, 3, 4, 19] [] [(5, 3), (9, 3), (13, 3), (20, 3), (24, 3), (30, 3), (34, 3)] Tryz.func157 rfl rfl rfl (by kernel_rfl) rfl ?_
  simp [termCs, lookA]
  repeat' first
    | refine And.intro ?_ ?_
    | intro _
    | (refine callG_of (fun _ => mover_h w) rfl ?_; simp)
  all_goals grind [textTermF]
def numberTermF (w : LookD) (t : TermD) : Bool :=
  if t.key.size > 127 then false
  else if t.kind = 4 then t.sel == 0 && (t.side == 1 || t.side == moverF w)
  else if t.kind = 5 then w.node && t.sel == 0 && t.side == 0
  else if t.kind = 6 then w.node && placeF w t.sel && t.side == 0
  else false
set_option maxRecDepth 8000 in
theorem numberTerm_h (w : LookD) (t : TermD) : Has Tryz.prog 160 [lookA w, .agg (termCs t)] (bA (numberTermF w t)) noTok := by
  refine fnT Tryz.mixed [0, 1, 3, 4, 8, 10, 11, 28, 44] [] [(5, 3), (9, 3), (13, 3), (17, 3), (21, 3), (35, 3), (40, 3), (52, 3), (57, 3)] Tryz.func160 rfl rfl rfl (by kernel_rfl) rfl ?_
  simp [termCs, lookA]
  repeat' first
    | refine And.intro ?_ ?_
    | intro _
    | (refine callG_of (fun _ => mover_h w) rfl ?_; simp)
    | (refine callG_of (fun _ => place_h w _) rfl ?_; simp)
  all_goals grind [numberTermF]
def pairF (w : LookD) (l : LitD) : Bool :=
  if l.other.side ≠ 1 then false
  else if textTermF w l.term then l.rel == 1 && textTermF w l.other
  else if !numberTermF w l.term || l.other.kind != 4 || !numberTermF w l.other then false
  else l.rel == 1 || l.rel == 3 || l.rel == 4 || l.rel == 5 || l.rel == 6
set_option maxRecDepth 8000 in
set_option maxHeartbeats 1000000 in
theorem pair_h (w : LookD) (l : LitD) : Has Tryz.prog 163 [lookA w, .agg (litCs l)] (bA (pairF w l)) noTok := by
  refine fnT Tryz.mixed [0, 1, 3, 4, 8, 12, 39, 41, 42] [] [] Tryz.func163 rfl rfl rfl (by kernel_rfl) rfl ?_
  simp [litCs, strsA, intsA, lookA]
  repeat' first
    | refine And.intro ?_ ?_
    | intro _
    | (refine callW_of (textTerm_h w l.term) ?_; simp)
    | (refine callG_of (fun _ => textTerm_h w l.other) rfl ?_; simp)
    | (refine callW_of (numberTerm_h w l.term) ?_; simp)
    | (refine callG_of (fun _ => numberTerm_h w l.other) rfl ?_; simp)
  all_goals grind [pairF]
def keysF (w : LookD) (l : LitD) : Bool :=
  if l.of_ = 1 then plainTextF l.term || textTermF w l.term
  else if l.of_ = moverF w then plainTextF l.term || (l.term.side == 1 && textTermF w l.term)
  else false
set_option maxRecDepth 8000 in
set_option maxHeartbeats 1000000 in
theorem keys_h (w : LookD) (l : LitD) : Has Tryz.prog 164 [lookA w, .agg (litCs l)] (bA (keysF w l)) noTok := by
  refine fnT Tryz.mixed [0, 1, 3, 4, 6, 7, 18] [] [] Tryz.func164 rfl rfl rfl (by kernel_rfl) rfl ?_
  simp [litCs, strsA, intsA, lookA]
  repeat' first
    | refine And.intro ?_ ?_
    | intro _
    | (refine callW_of (plainText_h l.term) ?_; simp)
    | (refine callG_of (fun _ => textTerm_h w l.term) rfl ?_; simp)
    | (refine callW_of (mover_h w) ?_; simp)
  all_goals grind [keysF]
/-- Both alike but for their lists, which the first has empty. -/
def sameF (a b : LitD) : Bool := a.kind == b.kind && eqT a.term b.term && a.rel == b.rel && a.num == b.num && (a.texts.length == 0 && a.nums.length == 0) && eqT a.other b.other && a.of_ == b.of_ && a.key.toList == b.key.toList && a.sel == b.sel
set_option maxRecDepth 8000 in
set_option maxHeartbeats 1000000 in
theorem same_h (a b : LitD) (ha : a.fits) : Has Tryz.prog 156 [.agg (litCs a), .agg (litCs b)] (bA (sameF a b)) noTok := by
  refine fnT Tryz.mixed [0, 1, 2, 3, 4] [] [] Tryz.func156 rfl rfl rfl (by kernel_rfl) rfl ?_
  have h1 : IntKind.i64.wrap ((a.texts.length : Int) + a.nums.length) = (a.texts.length : Int) + a.nums.length := wrap64 (by have := ha.1; have := ha.2; omega) (by have := ha.1; have := ha.2; omega)
  have h2 : decide ((a.texts.length : Int) + a.nums.length = 0) = (a.texts.length == 0 && a.nums.length == 0) := by
    cases a.texts <;> cases a.nums <;> simp <;> omega
  simp [litCs, strsA, intsA, h1]
  simp only [sameF, eqT, h2]
  generalize a.key.toList = K1
  generalize b.key.toList = K2
  generalize a.term.key.toList = K3
  generalize b.term.key.toList = K4
  generalize a.other.key.toList = K5
  generalize b.other.key.toList = K6
  grind
def isZeroF (l : LitD) : Bool := l.kind == 0 && sameF l .zero
set_option maxRecDepth 8000 in
theorem isZero_h (l : LitD) (hl : l.fits) : Has Tryz.prog 98 [.agg (litCs l)] (bA (isZeroF l)) noTok := by
  refine fnT Tryz.mixed [0, 1, 2] [] [] Tryz.func98 rfl rfl rfl (by kernel_rfl) rfl ?_
  simp [litCs, strsA, intsA]
  refine callG_of (fun _ => same_h l .zero hl) rfl ?_
  simp [isZeroF] <;> rfl
end Go.Proofs.YtldnkeackphilaaGreatDoor
/- norm.Valid's functions: rising rows, literals, parts. -/
namespace Go.Proofs.YtldnkeackphilaaGreatDoor
open Go.RowKit

def nTextAt (l : List ByteArray) (i : Nat) : Bool := decide ((l.getD i noText).size ≤ 127) && !(decide (0 < i) && !(Op.bytesLess (l.getD (i - 1) noText).toList (l.getD i noText).toList))
def nTextsF (l : List ByteArray) : Bool := (List.range l.length).all (nTextAt l)
set_option maxRecDepth 8000 in
theorem nTexts_h (l : List ByteArray) (hl : l.length ≤ 35184372088064) : Has Tryz.prog 158 [strsA l, .imm (.func (.func 159) #[] #[])] (bA (nTextsF l)) noTok := by
  refine fnT Tryz.mixed [0, 1, 4, 5, 6, 7, 8, 9, 10, 30] [] [] Tryz.func158 rfl rfl rfl (by kernel_rfl) rfl ?_
  simp [strsA]
  refine wF_loop [0, 1, 4, 7, 8, 9] (fun i : Nat => St.asc [(0, .sl (l.map fun s => [sA s]), [none]), (1, .imm (.func (.func 159) #[] #[]), []), (4, bA false, []), (7, .sl (l.map fun s => [sA s]), [none]), (8, iA l.length, []), (9, iA i, [])]) (fun i => i ≤ l.length ∧ Upto (nTextAt l) i) (fun i => l.length - i) 0 _ (by simp) (by simp [Upto.zero]) ?_
  rintro i ⟨hi, hok⟩
  by_cases h : i < l.length
  · have hx : l[i]? = some l[i] := List.getElem?_eq_getElem h
    obtain ⟨y, hy⟩ := ex_at (l := l) (i := i - 1) (by omega)
    generalize l[i] = x at *
    have hu : ((i : Int) - 1).toNat = i - 1 := by omega
    have ht : nTextAt l i = (decide (x.size ≤ 127) && !(decide (0 < i) && !(Op.bytesLess y.toList x.toList))) := by simp [nTextAt, hy, hx]
    simp [hx, hy, h, wrapN (Nat.le_trans hi hl), wrapP (Nat.le_trans hi hl), hu, -getElem?_pos]
    refine callW_of (fitsText_h x) ?_
    simp [hx, hy, h, wrapN (Nat.le_trans hi hl), wrapP (Nat.le_trans hi hl), hu, -getElem?_pos]
    and_intros
    · omega
    · intro hc
      exact all_false h (by rw [ht]; grind)
    · intro h1 h2
      exact ⟨i + 1, by simp, ⟨by omega, hok.next (by rw [ht]; grind)⟩, by omega⟩
  · have : i = l.length := by omega
    subst this
    simp
    exact hok
def nNumAt (l : List Int) (i : Nat) : Bool := fitsNumF (l.getD i 0) && !(decide (0 < i) && decide (l.getD (i - 1) 0 ≥ l.getD i 0))
def nNumsF (l : List Int) : Bool := (List.range l.length).all (nNumAt l)
set_option maxRecDepth 8000 in
theorem nNums_h (l : List Int) (hl : l.length ≤ 35184372088064) : Has Tryz.prog 161 [intsA l, .imm (.func (.func 162) #[] #[])] (bA (nNumsF l)) noTok := by
  refine fnT Tryz.mixed [0, 1, 4, 5, 6, 7, 8, 9, 10, 30] [] [] Tryz.func161 rfl rfl rfl (by kernel_rfl) rfl ?_
  simp [intsA]
  refine wF_loop [0, 1, 4, 7, 8, 9] (fun i : Nat => St.asc [(0, .sl (l.map fun s => [iA s]), [none]), (1, .imm (.func (.func 162) #[] #[]), []), (4, bA false, []), (7, .sl (l.map fun s => [iA s]), [none]), (8, iA l.length, []), (9, iA i, [])]) (fun i => i ≤ l.length ∧ Upto (nNumAt l) i) (fun i => l.length - i) 0 _ (by simp) (by simp [Upto.zero]) ?_
  rintro i ⟨hi, hok⟩
  by_cases h : i < l.length
  · have hx : l[i]? = some l[i] := List.getElem?_eq_getElem h
    obtain ⟨y, hy⟩ := ex_at (l := l) (i := i - 1) (by omega)
    generalize l[i] = x at *
    have hu : ((i : Int) - 1).toNat = i - 1 := by omega
    have ht : nNumAt l i = (fitsNumF x && !(decide (0 < i) && decide (y ≥ x))) := by simp [nNumAt, hy, hx]
    simp [hx, hy, h, wrapN (Nat.le_trans hi hl), wrapP (Nat.le_trans hi hl), hu, -getElem?_pos]
    refine callW_of (fitsNum_h x) ?_
    simp [hx, hy, h, wrapN (Nat.le_trans hi hl), wrapP (Nat.le_trans hi hl), hu, -getElem?_pos]
    and_intros
    · omega
    · intro hc
      exact all_false h (by rw [ht]; grind)
    · intro h1 h2
      exact ⟨i + 1, by simp, ⟨by omega, hok.next (by rw [ht]; grind)⟩, by omega⟩
  · have : i = l.length := by omega
    subst this
    simp
    exact hok
def nLitF (w : LookD) (l : LitD) : Bool :=
  if l.kind = 1 then
    if sameF { l with texts := [], nums := [] } { LitD.zero with kind := 1, term := l.term } = false then false
    else if textTermF w l.term then l.nums.length == 0 && nTextsF l.texts
    else numberTermF w l.term && l.texts.length == 0 && nNumsF l.nums
  else if l.kind = 2 then
    ((l.rel == 4 && decide (l.num ≥ -1000000000000000000) && decide (l.num ≤ 999999999999999999)) || (l.rel == 6 && decide (l.num ≥ -999999999999999999) && decide (l.num ≤ 1000000000000000000))) && numberTermF w l.term && sameF l { LitD.zero with kind := 2, term := l.term, rel := l.rel, num := l.num }
  else if l.kind = 3 then pairF w l && sameF l { LitD.zero with kind := 3, term := l.term, rel := l.rel, other := l.other }
  else if l.kind = 4 then keysF w l && sameF l { LitD.zero with kind := 4, term := l.term, of_ := l.of_ }
  else if l.kind = 5 then w.node && (plainTextF l.term || (l.term.side == 1 && textTermF w l.term)) && sameF l { LitD.zero with kind := 5, term := l.term }
  else if l.kind = 6 then w.node && decide (l.key.size ≤ 127) && sameF l { LitD.zero with kind := 6, key := l.key }
  else if l.kind = 7 then w.node && decide (l.key.size ≤ 127) && placeF w l.sel && sameF l { LitD.zero with kind := 7, key := l.key, sel := l.sel }
  else false
set_option maxRecDepth 8000 in
set_option maxHeartbeats 2000000 in
theorem nLit_h (w : LookD) (l : LitD) (hl : l.fits) : Has Tryz.prog 99 [lookA w, .agg (litCs l)] (bA (nLitF w l)) noTok := by
  refine fnT Tryz.mixed [0, 1, 3, 4, 5, 6, 7, 8, 10, 11, 21, 25, 50, 99, 115, 129, 160, 178] [] [] Tryz.func99 rfl rfl rfl (by kernel_rfl) rfl ?_
  simp [litCs, strsA, intsA, lookA]
  repeat' first
    | refine And.intro ?_ ?_
    | intro _
    | (refine callW_of (same_h { l with texts := [], nums := [] } { LitD.zero with kind := 1, term := l.term } ⟨by simp, by simp⟩) ?_; simp)
    | (refine callW_of (textTerm_h w l.term) ?_; simp)
    | (refine callG_of (fun _ => textTerm_h w l.term) rfl ?_; simp)
    | (refine callW_of (numberTerm_h w l.term) ?_; simp)
    | (refine callG_of (fun _ => numberTerm_h w l.term) rfl ?_; simp)
    | (refine callG_of (fun _ => nTexts_h l.texts hl.1) rfl ?_; simp)
    | (refine callG_of (fun _ => nNums_h l.nums hl.2) rfl ?_; simp)
    | (refine callW_of (pair_h w l) ?_; simp)
    | (refine callW_of (keys_h w l) ?_; simp)
    | (refine callW_of (plainText_h l.term) ?_; simp)
    | (refine callG_of (fun _ => fitsText_h l.key) rfl ?_; simp)
    | (refine callG_of (fun _ => place_h w l.sel) rfl ?_; simp)
    | (refine callG_of (fun _ => same_h l { LitD.zero with kind := 2, term := l.term, rel := l.rel, num := l.num } hl) rfl ?_; simp)
    | (refine callG_of (fun _ => same_h l { LitD.zero with kind := 3, term := l.term, rel := l.rel, other := l.other } hl) rfl ?_; simp)
    | (refine callG_of (fun _ => same_h l { LitD.zero with kind := 4, term := l.term, of_ := l.of_ } hl) rfl ?_; simp)
    | (refine callG_of (fun _ => same_h l { LitD.zero with kind := 5, term := l.term } hl) rfl ?_; simp)
    | (refine callG_of (fun _ => same_h l { LitD.zero with kind := 6, key := l.key } hl) rfl ?_; simp)
    | (refine callG_of (fun _ => same_h l { LitD.zero with kind := 7, key := l.key, sel := l.sel } hl) rfl ?_; simp)
  all_goals grind [nLitF]
end Go.Proofs.YtldnkeackphilaaGreatDoor
/- norm.Valid's functions: a part. -/
namespace Go.Proofs.YtldnkeackphilaaGreatDoor
open Go.RowKit

def nPartF (w : LookD) (p : PartD) : Bool :=
  if p.kind = 1 ∨ p.kind = 2 then p.kids.length == 0 && !p.neg && isZeroF p.lit
  else if p.kind = 3 ∨ p.kind = 4 then decide (p.kids.length ≥ 2) && !p.neg && isZeroF p.lit
  else if p.kind = 5 then p.kids.length == 0 && nLitF w p.lit
  else false
set_option maxRecDepth 8000 in
set_option maxHeartbeats 1000000 in
theorem nPart_h (w : LookD) (p : PartD) (hl : p.lit.fits) : Has Tryz.prog 58 [lookA w, .agg (partCs p)] (bA (nPartF w p)) noTok := by
  refine fnT Tryz.mixed [0, 1, 3, 4, 6, 7, 24, 41] [] [] Tryz.func58 rfl rfl rfl (by kernel_rfl) rfl ?_
  simp [partCs, strsA, intsA, lookA]
  repeat' first
    | refine And.intro ?_ ?_
    | intro _
    | (refine callG_of (fun _ => isZero_h p.lit hl) rfl ?_; simp)
    | (refine callG_of (fun _ => nLit_h w p.lit hl) rfl ?_; simp)
  all_goals grind [nPartF]
end Go.Proofs.YtldnkeackphilaaGreatDoor
/- NormValid's plain law: what norm's functions say and what berthref16's say is the same. -/
namespace Go.Proofs.YtldnkeackphilaaGreatDoor
open Go.RowKit

theorem less_total : ∀ (a b : List UInt8), (Op.bytesLess a b || a == b) = !(Op.bytesLess b a)
  | [], [] => rfl
  | [], _ :: _ => rfl
  | _ :: _, [] => rfl
  | x :: a, y :: b => by
    have ih := less_total a b
    simp only [Op.bytesLess]
    have hc : ((x :: a) == (y :: b)) = (x == y && a == b) := rfl
    rw [hc]
    rcases Nat.lt_trichotomy x.toNat y.toNat with h | h | h
    · have h1 : x < y := UInt8.lt_iff_toNat_lt.2 h
      have h2 : ¬ y < x := fun h' => by have := UInt8.lt_iff_toNat_lt.1 h'; omega
      have h3 : (y == x) = false := by
        rw [Bool.eq_false_iff]
        intro e
        have := eq_of_beq e
        subst this
        omega
      simp [h1, h2, h3]
    · have : x = y := UInt8.toNat_inj.1 h
      subst this
      have h1 : ¬ x < x := fun h' => by have := UInt8.lt_iff_toNat_lt.1 h'; omega
      simp [h1, ih]
    · have h1 : y < x := UInt8.lt_iff_toNat_lt.2 h
      have h2 : ¬ x < y := fun h' => by have := UInt8.lt_iff_toNat_lt.1 h'; omega
      have h3 : (x == y) = false := by
        rw [Bool.eq_false_iff]
        intro e
        have := eq_of_beq e
        subst this
        omega
      simp [h1, h2, h3]
theorem texts_eq (l : List ByteArray) : nTextsF l = risingTextsF l := by
  unfold nTextsF risingTextsF
  congr 1
  funext i
  simp only [nTextAt, textAt, leqS, less_total, Bool.not_not]
  generalize (l.getD i noText).size = n
  generalize Op.bytesLess (l.getD (i - 1) noText).toList (l.getD i noText).toList = B
  grind
theorem nums_eq (l : List Int) : nNumsF l = risingNumsF l := by
  unfold nNumsF risingNumsF
  congr 1
  funext i
  simp only [nNumAt, numAt, fitsNumF]
  grind
theorem size_nil {s : ByteArray} (h : s.toList = []) : s.size = 0 := by
  rw [ByteArray.toList_eq] at h
  have : s.data.toList.length = 0 := by rw [h]; rfl
  simpa using this
theorem textTerm_eq (t : TermD) (pods : Bool) (sels : Int) : textTermF ⟨sels, !pods⟩ t = (termF t pods sels && textF t) := by
  have hk := size_nil (s := t.key)
  simp only [textTermF, termF, textF, moverF, sideF]
  generalize t.key.toList = K at *
  generalize t.key.size = n at *
  cases pods <;> grind
theorem numberTerm_eq (t : TermD) (pods : Bool) (sels : Int) : numberTermF ⟨sels, !pods⟩ t = (termF t pods sels && numberF t) := by
  simp only [numberTermF, termF, numberF, moverF, sideF, placeF]
  generalize t.key.toList = K at *
  generalize t.key.size = n at *
  cases pods <;> grind
theorem plainText_eq (t : TermD) (pods : Bool) (sels : Int) : plainTextF t = (termF t pods sels && t.kind == 1) := by
  simp only [plainTextF, termF]
  generalize t.key.toList = K at *
  generalize t.key.size = n at *
  cases pods <;> grind
theorem eqT_self (t : TermD) : eqT t t = true := by simp [eqT]
theorem len0 {α : Type} (l : List α) : decide (l.length > 0) = !(l.length == 0) := by cases l <;> simp
theorem lit1_eq (l : LitD) (pods : Bool) (sels : Int) (h : l.kind = 1) : nLitF ⟨sels, !pods⟩ l = litF l pods sels := by
  have hk := size_nil (s := l.key)
  simp only [nLitF, litF, h, sameF, restF, inF, textTerm_eq, numberTerm_eq, texts_eq, nums_eq, eqT_self, LitD.zero, noText_l, List.length_nil, len0]
  generalize eqT l.other .zero = E
  generalize l.key.toList = K at *
  generalize l.key.size = n at *
  generalize termF l.term pods sels = T
  generalize textF l.term = X
  generalize numberF l.term = Y
  grind
theorem lit2_eq (l : LitD) (pods : Bool) (sels : Int) (h : l.kind = 2) : nLitF ⟨sels, !pods⟩ l = litF l pods sels := by
  have hk := size_nil (s := l.key)
  simp only [nLitF, litF, h, sameF, restF, relF, numberTerm_eq, eqT_self, LitD.zero, noText_l, List.length_nil, len0]
  generalize eqT l.other .zero = E
  generalize l.key.toList = K at *
  generalize l.key.size = n at *
  generalize termF l.term pods sels = T
  generalize numberF l.term = Y
  generalize (l.texts.length == 0) = A
  generalize (l.nums.length == 0) = B
  grind
theorem lit3_eq (l : LitD) (pods : Bool) (sels : Int) (h : l.kind = 3) : nLitF ⟨sels, !pods⟩ l = litF l pods sels := by
  have hk := size_nil (s := l.key)
  have hn : numberF l.other = true ∧ termF l.other pods sels = true → True := fun _ => trivial
  simp only [nLitF, litF, h, sameF, restF, podF, pairF, textTerm_eq, numberTerm_eq, eqT_self, LitD.zero, noText_l, List.length_nil, len0]
  have hnum : (l.other.kind == 4) = true → numberF l.other = true := by
    intro h; simp only [numberF]; grind
  generalize numberF l.other = Y2 at *
  generalize l.key.toList = K at *
  generalize l.key.size = n at *
  generalize termF l.term pods sels = T
  generalize termF l.other pods sels = T2
  generalize textF l.term = X
  generalize textF l.other = X2
  generalize numberF l.term = Y
  generalize (l.texts.length == 0) = A
  generalize (l.nums.length == 0) = B
  cases T <;> cases T2 <;> cases X <;> cases A <;> cases B <;> simp <;> grind
theorem lit4_eq (l : LitD) (pods : Bool) (sels : Int) (h : l.kind = 4) : nLitF ⟨sels, !pods⟩ l = litF l pods sels := by
  have hk := size_nil (s := l.key)
  simp only [nLitF, litF, h, sameF, restF, keysF, textTerm_eq, plainText_eq l.term pods sels, eqT_self, LitD.zero, noText_l, List.length_nil, len0, moverF, sideF, ofPodF]
  generalize eqT l.other .zero = E
  generalize l.key.toList = K at *
  generalize l.key.size = n at *
  generalize termF l.term pods sels = T
  generalize textF l.term = X
  generalize (l.texts.length == 0) = A
  generalize (l.nums.length == 0) = B
  cases pods <;> cases T <;> cases X <;> cases A <;> cases B <;> cases E <;> simp <;> grind
theorem lit5_eq (l : LitD) (pods : Bool) (sels : Int) (h : l.kind = 5) : nLitF ⟨sels, !pods⟩ l = litF l pods sels := by
  have hk := size_nil (s := l.key)
  simp only [nLitF, litF, h, sameF, restF, textTerm_eq, plainText_eq l.term pods sels, eqT_self, LitD.zero, noText_l, List.length_nil, len0, ofPodF]
  generalize eqT l.other .zero = E
  generalize l.key.toList = K at *
  generalize l.key.size = n at *
  generalize termF l.term pods sels = T
  generalize textF l.term = X
  generalize (l.texts.length == 0) = A
  generalize (l.nums.length == 0) = B
  cases pods <;> cases T <;> cases X <;> cases A <;> cases B <;> cases E <;> simp <;> grind
theorem lit67_eq (l : LitD) (pods : Bool) (sels : Int) (h : l.kind = 6 ∨ l.kind = 7) : nLitF ⟨sels, !pods⟩ l = litF l pods sels := by
  rcases h with h | h
  all_goals
    simp only [nLitF, litF, h, sameF, restF, eqT_self, LitD.zero, noText_l, List.length_nil, len0, placeF]
    generalize eqT l.other .zero = E
    generalize eqT l.term .zero = E2
    generalize l.key.size = n at *
    generalize (l.texts.length == 0) = A
    generalize (l.nums.length == 0) = B
    cases pods <;> cases A <;> cases B <;> cases E <;> cases E2 <;> simp <;> grind
theorem lit_eq (l : LitD) (pods : Bool) (sels : Int) : nLitF ⟨sels, !pods⟩ l = litF l pods sels := by
  by_cases h1 : l.kind = 1
  · exact lit1_eq l pods sels h1
  by_cases h2 : l.kind = 2
  · exact lit2_eq l pods sels h2
  by_cases h3 : l.kind = 3
  · exact lit3_eq l pods sels h3
  by_cases h4 : l.kind = 4
  · exact lit4_eq l pods sels h4
  by_cases h5 : l.kind = 5
  · exact lit5_eq l pods sels h5
  by_cases h6 : l.kind = 6 ∨ l.kind = 7
  · exact lit67_eq l pods sels h6
  have h6' : ¬ l.kind = 6 := fun h => h6 (.inl h)
  have h7' : ¬ l.kind = 7 := fun h => h6 (.inr h)
  simp [nLitF, litF, h1, h2, h3, h4, h5, h6', h7']
end Go.Proofs.YtldnkeackphilaaGreatDoor
