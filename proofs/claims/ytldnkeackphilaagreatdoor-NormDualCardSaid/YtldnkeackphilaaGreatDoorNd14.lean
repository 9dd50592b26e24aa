/- norm: what cond makes, in plain Lean. -/
import Derived.Test.YtldnkeackphilaaGreatDoorNd11
import Derived.Test.YtldnkeackphilaaGreatDoorNd12
import Derived.Test.YtldnkeackphilaaGreatDoorNd13
set_option linter.unusedSimpArgs false
set_option linter.unusedVariables false
set_option linter.unusedSectionVars false
namespace Go.Proofs.YtldnkeackphilaaGreatDoor

def partAt (ps : List Part) (k : Int) : Part := ps.getD k.toNat ⟨0, noText, 0, []⟩
def nearF (c : Int → Int → Tr) (p : Part) (s : Int) : Tr :=
  let sel := c (p.kids.headD 0) 0
  if sel.kind = 2 then truthF false s else .lit { LitD.zero with kind := 7, key := p.text } s (some sel)
def opdOf (c : Int → Int → Tr) (ps : List Part) (p : Part) : OpdD :=
  if p.kind = 11 then ⟨0, false, p.text, 0, .zero, none⟩
  else if p.kind = 12 then ⟨0, true, noText, p.num, .zero, none⟩
  else if p.kind = 14 then ⟨2, false, noText, 0, ⟨2, p.num, p.text, 0⟩, none⟩
  else if p.kind = 15 then ⟨2, false, noText, 0, ⟨3, p.num, noText, 0⟩, none⟩
  else if p.kind = 18 then ⟨2, true, noText, 0, ⟨5, 0, p.text, 0⟩, none⟩
  else if p.kind = 20 then ⟨2, true, noText, 0, ⟨6, 0, p.text, 0⟩, some (c (p.kids.headD 0) 0)⟩
  else
    let q := partAt ps (p.kids.headD 0)
    if q.kind = 14 then ⟨2, true, noText, 0, ⟨4, q.num, q.text, 0⟩, none⟩
    else match intF q.text with
      | none => ⟨1, true, noText, 0, .zero, none⟩
      | some n => ⟨0, true, noText, n, .zero, none⟩
def opdF (c : Int → Int → Tr) (ps : List Part) (k : Int) : OpdD := opdOf c ps (partAt ps k)
def comparedX (a b : OpdD) (num : Int) (s0 : Int) : Tr :=
  let cmp := if num = 2 then 1 else num
  let s := if num = 2 then 1 - s0 else s0
  if a.step = 1 ∨ b.step = 1 then truthF false s
  else if a.step = 0 ∧ b.step = 0 then truthF (standsF a b cmp) s
  else if a.step = 0 then againstF b a (turnF cmp) s
  else if b.step = 0 then againstF a b cmp s
  else if a.term.side = 1 ∧ b.term.side ≠ 1 then .lit { LitD.zero with kind := 3, term := b.term, rel := turnF cmp, other := a.term } s b.sel
  else .lit { LitD.zero with kind := 3, term := a.term, rel := cmp, other := b.term } s a.sel
def comparedF (o : Int → OpdD) (p : Part) (s0 : Int) : Tr := comparedX (o (p.kids.getD 0 0)) (o (p.kids.getD 1 0)) p.num s0
def textsOf (es : List OpdD) : List ByteArray := (es.filter fun e => !e.num).map (·.text)
def numsOf (es : List OpdD) : List Int := (es.filter (·.num)).map (·.n)
theorem textsOf_snoc (es : List OpdD) (e : OpdD) : textsOf (es ++ [e]) = textsOf es ++ if e.num then [] else [e.text] := by
  simp only [textsOf, List.filter_append, List.map_append, List.filter_cons, List.filter_nil]
  cases e.num <;> simp
theorem numsOf_snoc (es : List OpdD) (e : OpdD) : numsOf (es ++ [e]) = numsOf es ++ if e.num then [e.n] else [] := by
  simp only [numsOf, List.filter_append, List.map_append, List.filter_cons, List.filter_nil]
  cases e.num <;> simp
def memberX (x : OpdD) (es : List OpdD) (s : Int) : Tr :=
  if es = [] ∨ x.step = 1 then truthF false s
  else if x.step = 0 then truthF (es.any fun e => standsF x e 1) s
  else .lit { LitD.zero with kind := 1, term := x.term, texts := compactS (sortedS (textsOf es)), nums := Lib.compact (sortedI (numsOf es)) } s x.sel
def memberF (c : Int → Int → Tr) (ps : List Part) (k j : Int) (s : Int) : Tr :=
  let p := partAt ps j
  if p.kind = 16 then .lit { LitD.zero with kind := 4, term := keyTermF (opdF c ps k), of_ := p.num } s none
  else if p.kind = 17 then .lit { LitD.zero with kind := 5, term := keyTermF (opdF c ps k) } s none
  else memberX (opdF c ps k) (p.kids.map (opdF c ps)) s
def condStep (c : Int → Int → Tr) (ps : List Part) (k : Int) (s : Int) : Tr :=
  let p := partAt ps k
  if p.kind = 1 ∨ p.kind = 2 then truthF (p.kind == 1) s
  else if p.kind = 3 then c (p.kids.headD 0) (1 - s)
  else if p.kind = 4 ∨ p.kind = 5 then joinF (if (p.kind == 4) = (s == 0) then 3 else 4) (p.kids.map fun k => c k s)
  else if p.kind = 8 then nearF c p s
  else if p.kind = 9 then nearF c p (1 - s)
  else if p.kind = 10 then .lit { LitD.zero with kind := 6, key := p.text } s none
  else if p.kind = 6 then comparedF (opdF c ps) p s
  else memberF c ps (p.kids.getD 0 0) (p.kids.getD 1 0) (if p.num = 1 then 1 - s else s)
def condF (ps : List Part) : Nat → Int → Int → Tr
  | 0, _, _ => .leaf 0
  | f + 1, k, s => condStep (condF ps f) ps k s
def sideK (k : Int) : Prop := k = 11 ∨ k = 12 ∨ k = 14 ∨ k = 15 ∨ k = 18 ∨ k = 20 ∨ k = 19
structure TT (ps : List Part) : Prop where
  wf : WF ps
  cnt : ∀ (i : Nat) p, ps[i]? = some p → p.kids.length ≤ 1000
  cmp : ∀ (i : Nat) p, ps[i]? = some p → p.kind = 6 → sideK (partAt ps (p.kids.getD 0 0)).kind ∧ sideK (partAt ps (p.kids.getD 1 0)).kind
  mem : ∀ (i : Nat) p, ps[i]? = some p → p.kind = 7 → sideK (partAt ps (p.kids.getD 0 0)).kind ∧ ((partAt ps (p.kids.getD 1 0)).kind = 13 ∨ (partAt ps (p.kids.getD 1 0)).kind = 16 ∨ (partAt ps (p.kids.getD 1 0)).kind = 17)
theorem partAt_nat {ps : List Part} {k : Nat} {p : Part} (h : ps[k]? = some p) : partAt ps k = p := by simp [partAt, List.getD_eq_getElem?_getD, h]
def pCs (p : Part) : List AV := [iA p.kind, sA p.text, iA p.num, intsA p.kids]
def psA (ps : List Part) : AV := .sl (ps.map pCs)
def mkA (ps : List Part) : AV := .ptr [psA ps]
end Go.Proofs.YtldnkeackphilaaGreatDoor
namespace Go.Proofs.YtldnkeackphilaaGreatDoor

def LitD.at_ (l : LitD) (n : Int) : LitD := if l.kind = 7 then { l with sel := n } else { l with term := { l.term with sel := n } }
mutual
def writeT : Tr → List PartD → List (List PartD) → List PartD × List (List PartD)
  | .mk kind neg lit kids sel, list, sels =>
    let r := writeKs kids list sels []
    match sel with
    | none => (r.1 ++ [⟨kind, neg, lit, r.2.2⟩], r.2.1)
    | some t => let q := writeT t [] r.2.1; (r.1 ++ [⟨kind, neg, lit.at_ r.2.1.length, r.2.2⟩], q.2 ++ [q.1])
def writeKs : List Tr → List PartD → List (List PartD) → List Int → List PartD × List (List PartD) × List Int
  | [], list, sels, at_ => (list, sels, at_)
  | t :: r, list, sels, at_ => let q := writeT t list sels; writeKs r q.1 q.2 (at_ ++ [(q.1.length : Int) - 1])
end
mutual
def cntT : Tr → Nat
  | .mk _ _ _ kids sel => 1 + cntKs kids + (match sel with | none => 0 | some t => cntT t)
def cntKs : List Tr → Nat
  | [] => 0
  | t :: r => cntT t + cntKs r
end
def stepK (x : List PartD × List (List PartD) × List Int) (t : Tr) : List PartD × List (List PartD) × List Int :=
  ((writeT t x.1 x.2.1).1, (writeT t x.1 x.2.1).2, x.2.2 ++ [((writeT t x.1 x.2.1).1.length : Int) - 1])
theorem writeKs_fold : ∀ (l : List Tr) (list : List PartD) (sels : List (List PartD)) (at_ : List Int), writeKs l list sels at_ = l.foldl stepK (list, sels, at_)
  | [], _, _, _ => by simp [writeKs]
  | t :: r, list, sels, at_ => by simp only [writeKs, List.foldl_cons]; rw [writeKs_fold r]; rfl
theorem writeT_eq (t : Tr) (list : List PartD) (sels : List (List PartD)) : writeT t list sels =
    match t.sel with
    | none => ((t.kids.foldl stepK (list, sels, [])).1 ++ [⟨t.kind, t.neg, t.lt, (t.kids.foldl stepK (list, sels, [])).2.2⟩], (t.kids.foldl stepK (list, sels, [])).2.1)
    | some u => ((t.kids.foldl stepK (list, sels, [])).1 ++ [⟨t.kind, t.neg, t.lt.at_ (t.kids.foldl stepK (list, sels, [])).2.1.length, (t.kids.foldl stepK (list, sels, [])).2.2⟩],
        (writeT u [] (t.kids.foldl stepK (list, sels, [])).2.1).2 ++ [(writeT u [] (t.kids.foldl stepK (list, sels, [])).2.1).1]) := by
  obtain ⟨k, neg, l, kids, sel⟩ := t
  cases sel <;> simp only [writeT, writeKs_fold, Tr.kind, Tr.neg, Tr.lt, Tr.kids, Tr.sel]
mutual
theorem write_len : ∀ (t : Tr) (list : List PartD) (sels : List (List PartD)), (writeT t list sels).1.length ≤ list.length + cntT t ∧ (writeT t list sels).2.length ≤ sels.length + cntT t
  | .mk kind neg lit kids none, list, sels => by
    have := writeKs_len kids list sels []
    simp only [writeT, cntT, List.length_append, List.length_cons, List.length_nil]
    omega
  | .mk kind neg lit kids (some t), list, sels => by
    have h1 := writeKs_len kids list sels []
    have h2 := write_len t [] (writeKs kids list sels []).2.1
    simp only [writeT, cntT, List.length_append, List.length_cons, List.length_nil] at *
    have : 1 ≤ cntT t := by obtain ⟨_, _, _, _, sel⟩ := t; cases sel <;> simp only [cntT] <;> omega
    omega
theorem writeKs_len : ∀ (l : List Tr) (list : List PartD) (sels : List (List PartD)) (at_ : List Int), (writeKs l list sels at_).1.length ≤ list.length + cntKs l ∧ (writeKs l list sels at_).2.1.length ≤ sels.length + cntKs l
  | [], _, _, _ => by simp [writeKs, cntKs]
  | t :: r, list, sels, at_ => by
    have h1 := write_len t list sels
    have h2 := writeKs_len r (writeT t list sels).1 (writeT t list sels).2 (at_ ++ [((writeT t list sels).1.length : Int) - 1])
    simp only [writeKs, cntKs]
    omega
end
theorem cntKs_take : ∀ (l : List Tr) (i : Nat) (h : i < l.length), cntKs (l.take i) + cntT l[i] ≤ cntKs l
  | t :: r, 0, _ => by simp [cntKs]
  | t :: r, i + 1, h => by have := cntKs_take r i (by simpa using h); simp only [List.take_succ_cons, cntKs, List.getElem_cons_succ]; omega
theorem cnt_one (t : Tr) : 1 ≤ cntT t := by obtain ⟨_, _, _, _, sel⟩ := t; cases sel <;> simp only [cntT] <;> omega
theorem cnt_kids (t : Tr) : cntT t = 1 + cntKs t.kids + (match t.sel with | none => 0 | some u => cntT u) := by obtain ⟨_, _, _, _, sel⟩ := t; cases sel <;> simp only [cntT, Tr.kids, Tr.sel] <;> omega
end Go.Proofs.YtldnkeackphilaaGreatDoor
namespace Go.Proofs.YtldnkeackphilaaGreatDoor

def dualK (k : Int) : Int := if k = 1 then 2 else if k = 2 then 1 else if k = 3 then 4 else if k = 4 then 3 else k
mutual
def dualT : Tr → Tr
  | .mk k neg l kids sel => .mk (dualK k) (if k = 5 then !neg else neg) l (dualKs kids) sel
def dualKs : List Tr → List Tr
  | [] => []
  | t :: r => dualT t :: dualKs r
end
theorem dualKs_map : ∀ l : List Tr, dualKs l = l.map dualT
  | [] => by simp [dualKs]
  | t :: r => by simp [dualKs, dualKs_map r]
def dualP (p : PartD) : PartD := ⟨dualK p.kind, if p.kind = 5 then !p.neg else p.neg, p.lit, p.kids⟩
def dualL (l : List PartD) : List PartD := l.map dualP
theorem dual_kind (t : Tr) : (dualT t).kind = dualK t.kind := by obtain ⟨k, n, l, ks, s⟩ := t; simp [dualT, Tr.kind]
theorem dual_leaf (k : Int) (h : k ≠ 5) : dualT (.leaf k) = .leaf (dualK k) := by simp [Tr.leaf, dualT, dualKs, h]
theorem dual_lit (l : LitD) (s : Int) (sel : Option Tr) (hs : s = 0 ∨ s = 1) : Tr.lit l (1 - s) sel = dualT (.lit l s sel) := by
  rcases hs with rfl | rfl <;> simp [Tr.lit, dualT, dualKs, dualK]
theorem dual_truth (b : Bool) (s : Int) (hs : s = 0 ∨ s = 1) : truthF b (1 - s) = dualT (truthF b s) := by
  unfold truthF
  rcases hs with rfl | rfl <;> cases b <;> simp [dual_leaf, dualK]
theorem dualK_eq (k x : Int) : (dualK k = dualK x) ↔ k = x := by
  have e : ∀ k, dualK (dualK k) = k := fun k => by
    unfold dualK
    by_cases h1 : k = 1
    · simp [h1]
    by_cases h2 : k = 2
    · simp [h2]
    by_cases h3 : k = 3
    · simp [h3]
    by_cases h4 : k = 4
    · simp [h4]
    · simp [h1, h2, h3, h4]
  exact ⟨fun h => by rw [← e k, h, e], fun h => by rw [h]⟩
theorem dual_join (kind : Int) (hk : kind = 3 ∨ kind = 4) (kids : List Tr) : joinF (dualK kind) (kids.map dualT) = dualT (joinF kind kids) := by
  unfold joinF
  have e1 : (if dualK kind = 4 then (1 : Int) else 2) = dualK (if kind = 4 then 1 else 2) := by rcases hk with rfl | rfl <;> simp [dualK]
  have e2 : (if dualK kind = 4 then (2 : Int) else 1) = dualK (if kind = 4 then 2 else 1) := by rcases hk with rfl | rfl <;> simp [dualK]
  rw [e1, e2]
  have h5 : kind ≠ 5 := by omega
  have w5 : (if kind = 4 then (1 : Int) else 2) ≠ 5 := by split <;> omega
  have d5 : (if kind = 4 then (2 : Int) else 1) ≠ 5 := by split <;> omega
  generalize (if kind = 4 then (1 : Int) else 2) = win at *
  generalize (if kind = 4 then (2 : Int) else 1) = drop at *
  dsimp only
  have ha : (kids.map dualT).any (fun t => decide (t.kind = dualK win)) = kids.any (fun t => decide (t.kind = win)) := by
    rw [List.any_map]
    congr 1
    funext t
    simp [dual_kind, dualK_eq]
  have hf : (kids.map dualT).filter (fun t => decide (t.kind ≠ dualK drop)) = (kids.filter (fun t => decide (t.kind ≠ drop))).map dualT := by
    rw [List.filter_map]
    congr 2
    funext t
    simp [dual_kind, dualK_eq]
  rw [ha, hf]
  split
  · rw [dual_leaf _ w5]
  · generalize kids.filter (fun t => decide (t.kind ≠ drop)) = l
    match l with
    | [] => simp [dual_leaf _ d5]
    | [t] => simp
    | a :: b :: r => simp [dualT, dualKs_map, h5]
section
variable (c : Int → Int → Tr) (hc : ∀ k s, s = 0 ∨ s = 1 → c k (1 - s) = dualT (c k s))
include hc
theorem dual_near (p : Part) (s : Int) (hs : s = 0 ∨ s = 1) : nearF c p (1 - s) = dualT (nearF c p s) := by
  unfold nearF
  dsimp only
  split
  · exact dual_truth _ _ hs
  · exact dual_lit _ _ _ hs
omit hc in
theorem dual_against (t x : OpdD) (cmp s : Int) (hs : s = 0 ∨ s = 1) : againstF t x cmp (1 - s) = dualT (againstF t x cmp s) := dual_lit _ _ _ hs
omit hc in
theorem dual_compared (a b : OpdD) (num s : Int) (hs : s = 0 ∨ s = 1) : comparedX a b num (1 - s) = dualT (comparedX a b num s) := by
  unfold comparedX
  dsimp only
  have e : (if num = 2 then 1 - (1 - s) else 1 - s) = 1 - (if num = 2 then 1 - s else s) := by split <;> omega
  have h : (if num = 2 then 1 - s else s) = 0 ∨ (if num = 2 then 1 - s else s) = 1 := by split <;> omega
  rw [e]
  generalize (if num = 2 then 1 - s else s) = s' at *
  split
  · exact dual_truth _ _ h
  split
  · exact dual_truth _ _ h
  split
  · exact dual_against _ _ _ _ h
  split
  · exact dual_against _ _ _ _ h
  split
  · exact dual_lit _ _ _ h
  · exact dual_lit _ _ _ h
omit hc in
theorem dual_member (ps : List Part) (k j s : Int) (hs : s = 0 ∨ s = 1) : memberF c ps k j (1 - s) = dualT (memberF c ps k j s) := by
  unfold memberF
  dsimp only
  split
  · exact dual_lit _ _ _ hs
  split
  · exact dual_lit _ _ _ hs
  · unfold memberX
    split
    · exact dual_truth _ _ hs
    split
    · exact dual_truth _ _ hs
    · exact dual_lit _ _ _ hs
theorem dual_step (ps : List Part) (k s : Int) (hs : s = 0 ∨ s = 1) : condStep c ps k (1 - s) = dualT (condStep c ps k s) := by
  unfold condStep
  generalize partAt ps k = p
  dsimp only
  split
  · exact dual_truth _ _ hs
  split
  · exact hc _ _ (by omega)
  split
  · next h =>
    have e : (p.kids.map fun k => c k (1 - s)) = (p.kids.map fun k => c k s).map dualT := by
      rw [List.map_map]
      exact List.map_congr_left fun k _ => hc k s hs
    have e2 : (if (p.kind == 4) = (1 - s == 0) then (3 : Int) else 4) = dualK (if (p.kind == 4) = (s == 0) then 3 else 4) := by
      rcases hs with rfl | rfl <;> rcases h with h | h <;> simp [h, dualK]
    rw [e, e2]
    exact dual_join _ (by split <;> simp) _
  split
  · exact dual_near c hc p s hs
  split
  · exact dual_near c hc p (1 - s) (by omega)
  split
  · exact dual_lit _ _ _ hs
  split
  · exact dual_compared _ _ _ _ hs
  · have e : (if p.num = 1 then 1 - (1 - s) else 1 - s) = 1 - (if p.num = 1 then 1 - s else s) := by split <;> omega
    rw [e]
    exact dual_member c ps _ _ _ (by split <;> omega)
end
theorem dual_cond (ps : List Part) : ∀ (f : Nat) (k s : Int), s = 0 ∨ s = 1 → condF ps f k (1 - s) = dualT (condF ps f k s)
  | 0, _, _, _ => by simp [condF, dual_leaf, dualK]
  | f + 1, k, s, hs => by rw [condF, condF]; exact dual_step (condF ps f) (dual_cond ps f) ps k s hs
mutual
theorem write_dual : ∀ (t : Tr) (list : List PartD) (sels : List (List PartD)), writeT (dualT t) (dualL list) sels = (dualL (writeT t list sels).1, (writeT t list sels).2)
  | .mk kind neg lit kids none, list, sels => by
    have := writeKs_dual kids list sels []
    simp only [dualT, writeT, this]
    simp [dualL, dualP]
  | .mk kind neg lit kids (some t), list, sels => by
    have := writeKs_dual kids list sels []
    simp only [dualT, writeT, this]
    simp [dualL, dualP]
theorem writeKs_dual : ∀ (l : List Tr) (list : List PartD) (sels : List (List PartD)) (at_ : List Int), writeKs (dualKs l) (dualL list) sels at_ = (dualL (writeKs l list sels at_).1, (writeKs l list sels at_).2)
  | [], list, sels, at_ => by simp [writeKs, dualKs]
  | t :: r, list, sels, at_ => by
    have h1 := write_dual t list sels
    have h2 := writeKs_dual r (writeT t list sels).1 (writeT t list sels).2 (at_ ++ [((writeT t list sels).1.length : Int) - 1])
    simp only [dualKs, writeKs, h1]
    have e : (dualL (writeT t list sels).1).length = (writeT t list sels).1.length := by simp [dualL]
    rw [e, h2]
end
theorem partAt_snoc {ps : List Part} (q : Part) {k : Int} (h : k.toNat < ps.length) : partAt (ps ++ [q]) k = partAt ps k := by
  simp [partAt, List.getD_eq_getElem?_getD, List.getElem?_append_left h]
section
variable {ps : List Part} (q : Part) (hk : ∀ k : Int, k.toNat < ps.length → ∀ j ∈ (partAt ps k).kids, j.toNat < ps.length)
include hk
theorem head_lt (k : Int) (h : k.toNat < ps.length) : ((partAt ps k).kids.headD 0).toNat < ps.length := by
  cases hl : (partAt ps k).kids with
  | nil => simp; omega
  | cons a r => exact hk k h a (by simp [hl])
theorem getD_lt (k : Int) (h : k.toNat < ps.length) (i : Nat) : ((partAt ps k).kids.getD i 0).toNat < ps.length := by
  by_cases hi : i < (partAt ps k).kids.length
  · rw [List.getD_eq_getElem?_getD, List.getElem?_eq_getElem hi]
    exact hk k h _ (List.getElem_mem hi)
  · rw [List.getD_eq_getElem?_getD, List.getElem?_eq_none (by omega)]
    simp; omega
variable (c c' : Int → Int → Tr) (hc : ∀ k s, k.toNat < ps.length → c' k s = c k s)
include hc
theorem opd_snoc (k : Int) (h : k.toNat < ps.length) : opdF c' (ps ++ [q]) k = opdF c ps k := by
  have h1 := head_lt hk k h
  unfold opdF
  rw [partAt_snoc q h]
  unfold opdOf
  rw [partAt_snoc q h1, hc _ _ h1]
theorem near_snoc (k : Int) (h : k.toNat < ps.length) (s : Int) : nearF c' (partAt ps k) s = nearF c (partAt ps k) s := by
  unfold nearF
  rw [hc _ _ (head_lt hk k h)]
theorem step_snoc (k : Int) (h : k.toNat < ps.length) (s : Int) : condStep c' (ps ++ [q]) k s = condStep c ps k s := by
  unfold condStep
  dsimp only
  rw [partAt_snoc q h]
  have e1 : ((partAt ps k).kids.map fun k => c' k s) = (partAt ps k).kids.map fun k => c k s := List.map_congr_left fun j hj => hc j s (hk k h j hj)
  have g0 := getD_lt hk k h 0
  have g1 := getD_lt hk k h 1
  have e2 : comparedF (opdF c' (ps ++ [q])) (partAt ps k) s = comparedF (opdF c ps) (partAt ps k) s := by
    unfold comparedF
    rw [opd_snoc q hk c c' hc _ g0, opd_snoc q hk c c' hc _ g1]
  have e3 : ∀ s, memberF c' (ps ++ [q]) ((partAt ps k).kids.getD 0 0) ((partAt ps k).kids.getD 1 0) s = memberF c ps ((partAt ps k).kids.getD 0 0) ((partAt ps k).kids.getD 1 0) s := fun s => by
    unfold memberF
    dsimp only
    rw [partAt_snoc q g1, opd_snoc q hk c c' hc _ g0]
    have : (partAt ps ((partAt ps k).kids.getD 1 0)).kids.map (opdF c' (ps ++ [q])) = (partAt ps ((partAt ps k).kids.getD 1 0)).kids.map (opdF c ps) := List.map_congr_left fun j hj => opd_snoc q hk c c' hc j (hk _ g1 j hj)
    rw [this]
  rw [e1, e2, e3, hc _ _ (head_lt hk k h), near_snoc hk c c' hc k h, near_snoc hk c c' hc k h]
end
theorem cond_snoc {ps : List Part} (q : Part) (hk : ∀ k : Int, k.toNat < ps.length → ∀ j ∈ (partAt ps k).kids, j.toNat < ps.length) : ∀ (f : Nat) (k s : Int), k.toNat < ps.length → condF (ps ++ [q]) f k s = condF ps f k s
  | 0, _, _, _ => by simp [condF]
  | f + 1, k, s, h => by rw [condF, condF]; exact step_snoc q hk _ _ (fun k s h => cond_snoc q hk f k s h) k h s
end Go.Proofs.YtldnkeackphilaaGreatDoor
namespace Go.Proofs.YtldnkeackphilaaGreatDoor
open Go.RowKit

def cutB (c : UInt8) (s : ByteArray) : ByteArray × ByteArray × Bool := (⟨(Lib.cut s.data.toList [c]).1.toArray⟩, ⟨(Lib.cut s.data.toList [c]).2.1.toArray⟩, (Lib.cut s.data.toList [c]).2.2)
theorem data_len (s : ByteArray) : s.data.toList.length = s.size := by rw [Array.length_toList]; rfl
theorem cutB_len (c : UInt8) (s : ByteArray) : (cutB c s).1.size ≤ s.size ∧ (cutB c s).2.1.size ≤ s.size := by
  have h : (Lib.cut s.data.toList [c]).1.length ≤ s.data.toList.length ∧ (Lib.cut s.data.toList [c]).2.1.length ≤ s.data.toList.length := by
    unfold Lib.cut
    split
    · simp [List.length_take]; omega
    · simp
  rw [data_len] at h
  exact h
theorem cut_c (c : UInt8) (s : ByteArray) (w : World) (hs : s.size < 4294967281) (hG : Glob w) : Calls Tryz.prog 185 #[.string s, .string ⟨#[c]⟩] w fun e w' =>
    e = .returned (.tuple #[.string (cutB c s).1, .string (cutB c s).2.1, .bool (cutB c s).2.2]) ∧ ∃ n, w' = w.drewN n := by
  obtain ⟨m, hm⟩ := hG.ml
  exact Tryz.strings_Cut s ⟨#[c]⟩ m w hs hm
theorem Glob.drewN {w : World} (h : Glob w) (n : Nat) : Glob (w.drewN n) := h.below (below_drewN (Below.refl _ _) n)

def keyF (s : ByteArray) : Bool := if (cutB 47 s).2.2 then nameF (cutB 47 s).1 && shortF (cutB 47 s).2.1 else shortF s

set_option maxRecDepth 100000 in
set_option maxHeartbeats 1000000 in
theorem isKey_c (s : ByteArray) (w : World) (hs : s.size < 4294967281) (hG : Glob w) : Calls Tryz.prog 133 #[.string s] w fun e w' => e = .returned (.bool (keyF s)) ∧ Below w.heap.size w w' := by
  have hk : Hid (keyF s = if (cutB 47 s).2.2 then nameF (cutB 47 s).1 && shortF (cutB 47 s).2.1 else shortF s) := rfl
  have hl := cutB_len 47 s
  have HC : Hid (∀ W, Glob W → Calls Tryz.prog 185 #[.string s, .string ⟨#[47]⟩] W fun e w' => e = .returned (.tuple #[.string (cutB 47 s).1, .string (cutB 47 s).2.1, .bool (cutB 47 s).2.2]) ∧ ∃ n, w' = W.drewN n) := fun W h => cut_c 47 s W hs h
  generalize keyF s = kf at *
  generalize cutB 47 s = q at *
  obtain ⟨A, R, fnd⟩ := q
  simp only at hk hl HC
  have HG := Lib.hid hG
  clear hG
  go_enter Tryz.func133, Tryz.ntmps133
  cases fnd with
  | false =>
    have hk' : Hid (kf = shortF s) := hk.out
    clear hk
    go_wp2_with (first | (go_at_call 185; refine (HC.out _ HG.out).mono ?_; rintro e w' ⟨rfl, n, rfl⟩) | (go_at_call 187; refine (isShort_c _ _ (by omega)).mono ?_; rintro e w' ⟨rfl, rfl⟩))
    go_ret
    exact ⟨ret_b hk'.out.symm, below_drewN (Below.refl _ _) _⟩
  | true =>
    have hk' : Hid (kf = (nameF A && shortF R)) := hk.out
    clear hk
    by_cases hn : nameF A = true
    · have hk2 : Hid (kf = shortF R) := by unfold Hid; rw [hk'.out, hn]; rfl
      clear hk'
      go_wp2_with (first | (go_at_call 185; refine (HC.out _ HG.out).mono ?_; rintro e w' ⟨rfl, n, rfl⟩) | (go_at_call 186; refine (isName_c _ _ (by omega) (HG.out.drewN _)).mono ?_; rintro e w' ⟨rfl, hB⟩) | (go_at_call 187; refine (isShort_c _ _ (by omega)).mono ?_; rintro e w' ⟨rfl, rfl⟩))
      go_ret
      exact ⟨ret_b hk2.out.symm, (below_drewN (Below.refl _ _) _).trans hB⟩
    · have hn' : nameF A = false := by simpa using hn
      have hk2 : Hid (kf = false) := by unfold Hid; rw [hk'.out, hn']; rfl
      clear hk'
      go_wp2_with (first | (go_at_call 185; refine (HC.out _ HG.out).mono ?_; rintro e w' ⟨rfl, n, rfl⟩) | (go_at_call 186; refine (isName_c _ _ (by omega) (HG.out.drewN _)).mono ?_; rintro e w' ⟨rfl, hB⟩) | (go_at_call 187; refine (isShort_c _ _ (by omega)).mono ?_; rintro e w' ⟨rfl, rfl⟩))
      go_ret
      exact ⟨ret_b hk2.out.symm, (below_drewN (Below.refl _ _) _).trans hB⟩

def effectF (s : ByteArray) : Bool := decide (s.toList = [78, 111, 83, 99, 104, 101, 100, 117, 108, 101] ∨ s.toList = [80, 114, 101, 102, 101, 114, 78, 111, 83, 99, 104, 101, 100, 117, 108, 101] ∨ s.toList = [78, 111, 69, 120, 101, 99, 117, 116, 101])
theorem isEffect_c (s : ByteArray) (w : World) : Calls Tryz.prog 134 #[.string s] w fun e w' => e = .returned (.bool (effectF s)) ∧ w' = w := by
  go_enter Tryz.func134, Tryz.ntmps134
  go_wp2
  all_goals (go_ret; exact ⟨ret_b (by rw [Bool.eq_iff_iff]; simp_all [effectF]), rfl⟩)
def allIx (f : Nat → Int → Bool) (s : ByteArray) (i : Nat) : Bool := if h : i < s.size then f i (bt s i) && allIx f s (i + 1) else true
termination_by s.size - i
theorem allIx_end (f : Nat → Int → Bool) (s : ByteArray) (i : Nat) (h : ¬ i < s.size) : allIx f s i = true := by unfold allIx; rw [dif_neg h]
theorem allIx_step (f : Nat → Int → Bool) (s : ByteArray) (i : Nat) (h : i < s.size) : allIx f s i = (f i (bt s i) && allIx f s (i + 1)) := by conv => lhs; unfold allIx; rw [dif_pos h]
def qOk (n i : Nat) (x : Int) : Bool := decide (97 ≤ x ∧ x ≤ 122) || decide (48 ≤ x ∧ x ≤ 57) && decide (0 < i) || decide (x = 45 ∨ x = 46 ∨ x = 47) && decide (0 < i ∧ i + 1 < n)
def qnameF (s : ByteArray) : Bool := decide (1 ≤ s.size ∧ s.size ≤ 32) && allIx (qOk s.size) s 0

set_option maxRecDepth 100000 in
set_option maxHeartbeats 4000000 in
theorem qname_c (s : ByteArray) (w : World) : Calls Tryz.prog 135 #[.string s] w fun e w' => e = .returned (.bool (qnameF s)) ∧ w' = w := by
  have Hb : Hid (qnameF s = (decide (1 ≤ s.size ∧ s.size ≤ 32) && allIx (qOk s.size) s 0)) := rfl
  have Ha : Hid (∀ k, k < s.size → allIx (qOk s.size) s k = (qOk s.size k (bt s k) && allIx (qOk s.size) s (k + 1))) := allIx_step _ s
  generalize qnameF s = sh at *
  by_cases h1 : 1 ≤ s.size
  · by_cases h32 : s.size ≤ 32
    · have Hb' : Hid (sh = allIx (qOk s.size) s 0) := by unfold Hid; rw [Hb.out]; simp [h1, h32]
      clear Hb
      go_enter Tryz.func135, Tryz.ntmps135
      go_wp2
      go_loop [3] (fun i => ∃ (k : Nat), k ≤ s.size ∧ i = .int .i64 k ∧ Hid (sh = allIx (qOk s.size) s k)) (fun i => s.size - (intOf i).toNat)
      case atStart => exact ⟨0, Nat.zero_le _, rfl, Hb'⟩
      case round =>
        obtain ⟨k, hk, rfl, hd⟩ := hrel
        by_cases hlt : k < s.size
        · have bk := bt_at s k
          have br := bt_range s k
          have Hst : Hid (sh = (qOk s.size k (bt s k) && allIx (qOk s.size) s (k + 1))) := by rw [hd.out, Ha.out k hlt]; rfl
          generalize bt s k = x at *
          have Hq : Hid (qOk s.size k x = (decide (97 ≤ x ∧ x ≤ 122) || decide (48 ≤ x ∧ x ≤ 57) && decide (0 < k) || decide (x = 45 ∨ x = 46 ∨ x = 47) && decide (0 < k ∧ k + 1 < s.size))) := rfl
          clear hd
          by_cases hx : qOk s.size k x = true
          · have Hst' : Hid (sh = allIx (qOk s.size) s (k + 1)) := by unfold Hid; rw [Hst.out, hx]; rfl
            have hq := Hq.out
            rw [hx] at hq
            have hs1 : ((s.size : Int) - 1) = ((s.size - 1 : Nat) : Int) := by omega
            simp only [Bool.or_eq_true, Bool.and_eq_true, decide_eq_true_eq, true_eq_decide_iff, eq_comm (a := true)] at hq
            clear Hst Hq hx
            rcases hq with (hq | hq) | hq
            · go_wp2
              all_goals
                go_round
                case rel => exact ⟨k + 1, by omega, by go_num, Hst'⟩
                case measure => simp [intOf]; try omega
            · go_wp2
              all_goals
                go_round
                case rel => exact ⟨k + 1, by omega, by go_num, Hst'⟩
                case measure => simp [intOf]; try omega
            · rcases hq with ⟨hq | hq | hq, h3⟩
              all_goals
                subst hq
                go_wp2
                all_goals
                  go_round
                  case rel => exact ⟨k + 1, by omega, by go_num, Hst'⟩
                  case measure => simp [intOf]; try omega
          · have hx' : qOk s.size k x = false := by simpa using hx
            have Hst' : Hid (sh = false) := by unfold Hid; rw [Hst.out, hx']; rfl
            have hq := Hq.out
            rw [hx'] at hq
            have Hq2 : Hid (¬ (97 ≤ x ∧ x ≤ 122) ∧ ¬ ((48 ≤ x ∧ x ≤ 57) ∧ 0 < k) ∧ ¬ ((x = 45 ∨ x = 46 ∨ x = 47) ∧ 0 < k ∧ k + 1 < s.size)) := by
              unfold Hid
              simp at hq
              grind
            clear Hst Hq hx hq hx'
            go_wp2
            all_goals first
              | (go_ret; exact ⟨ret_b Hst'.out.symm, rfl⟩)
              | (exfalso; have := Hq2.out; omega)
        · have Hst' : Hid (sh = true) := by rw [hd.out]; exact allIx_end _ _ _ hlt
          clear hd
          go_wp2
          go_ret
          exact ⟨ret_b Hst'.out.symm, rfl⟩
    · have Hb' : Hid (sh = false) := by unfold Hid; rw [Hb.out]; simp [h32]
      clear Hb
      go_enter Tryz.func135, Tryz.ntmps135
      go_wp2
      go_ret
      exact ⟨ret_b Hb'.out.symm, rfl⟩
  · have Hb' : Hid (sh = false) := by unfold Hid; rw [Hb.out]; simp [h1]
    clear Hb
    go_enter Tryz.func135, Tryz.ntmps135
    go_wp2
    go_ret
    exact ⟨ret_b Hb'.out.symm, rfl⟩
end Go.Proofs.YtldnkeackphilaaGreatDoor
namespace Go.Proofs.YtldnkeackphilaaGreatDoor
open Go.RowKit

end Go.Proofs.YtldnkeackphilaaGreatDoor
namespace Go.Proofs.YtldnkeackphilaaGreatDoor
open Go.RowKit

end Go.Proofs.YtldnkeackphilaaGreatDoor
namespace Go.Proofs.YtldnkeackphilaaGreatDoor
open Go.RowKit

def sidesG (kind num first second : Int) (mv : Bool) (i a b : Int) : Option (Int × Int) :=
  if first ≠ 2 ∧ first ≠ 3 then some (141, a)
  else if ¬ (if kind = 7 then second = 6 ∨ (second = 4 ∧ first = 2) ∨ (second = 5 ∧ first = 3) else second = first) then some (141, b)
  else if kind = 6 ∧ first = 2 ∧ 2 < num then some (141, i)
  else if mv then some (144, i) else none
def sidesF (ts : List (Int × Int)) (i : Int) (p : Part) : Option (Int × Int) :=
  sidesG p.kind p.num (sortAt ts (p.kids.getD 0 0)) (sortAt ts (p.kids.getD 1 0)) (movesF ts (p.kids.getD 0 0) && movesF ts (p.kids.getD 1 0)) i (p.kids.getD 0 0) (p.kids.getD 1 0)

set_option maxRecDepth 100000 in
set_option maxHeartbeats 2000000 in
theorem sides_c (lb : Nat) (pv sv tv : Value) (ps : List Part) (sc : List Int) (ts : List (Int × Int)) (i : Nat) (p : Part) (w : World) (h : Look w lb pv sv tv ps sc ts) (hp : ps[i]? = some p)
    (hk : ∀ k ∈ p.kids, 0 ≤ k ∧ k < ts.length) (h2 : p.kids.length = 2) :
    Calls Tryz.prog 85 #[.pointer (some ⟨lb, 0, none⟩), .int .i64 i] w fun e w' => ∃ v, e = .returned v ∧ FltV w (sidesF ts i p) v w' := by
  obtain ⟨hc0, hc1, hc2, hlb, hP, -, hT⟩ := id h
  have Hlook := Lib.hid h
  obtain ⟨Ap, cp, rfl, hpl, hpx⟩ := id hP
  obtain ⟨bp, op, kv, rfl, hbp, hr, h0, h1, h3, h4⟩ := hP.get hp
  have hil : i < ps.length := (List.getElem?_eq_some_iff.1 hp).1
  obtain ⟨-, -, -, Ak, ck, rfl, -, hkx⟩ := id hr
  obtain ⟨a, b, hab⟩ : ∃ a b, p.kids = [a, b] := by
    rcases hkk : p.kids with _ | ⟨a, _ | ⟨b, _ | ⟨d, r⟩⟩⟩ <;> rw [hkk] at h2 <;> simp at h2
    exact ⟨a, b, rfl⟩
  have ha := hk a (by rw [hab]; simp)
  have hb := hk b (by rw [hab]; simp)
  obtain ⟨-, bk, ok, rfl, hbk, hca⟩ := hkx 0 a (by rw [hab]; rfl)
  obtain ⟨-, bk', ok', he, -, hcb⟩ := hkx 1 b (by rw [hab]; rfl)
  obtain ⟨rfl, rfl⟩ : bk' = bk ∧ ok' = ok := by simpa using he.symm
  obtain ⟨an, rfl⟩ := Int.eq_ofNat_of_zero_le ha.1
  obtain ⟨bn, rfl⟩ := Int.eq_ofNat_of_zero_le hb.1
  have hal : an < ts.length := by omega
  have hbl : bn < ts.length := by omega
  obtain ⟨At, ct, rfl, htl, htx⟩ := id hT
  obtain ⟨⟨s1, d1⟩, ht1⟩ : ∃ t, ts[an]? = some t := ⟨_, List.getElem?_eq_getElem hal⟩
  obtain ⟨⟨s2, d2⟩, ht2⟩ : ∃ t, ts[bn]? = some t := ⟨_, List.getElem?_eq_getElem hbl⟩
  obtain ⟨bt_, ot, rfl, hbt, hs1, hd1⟩ := htx an _ ht1
  obtain ⟨bt', ot', he2, -, hs2, hd2⟩ := htx bn _ ht2
  obtain ⟨rfl, rfl⟩ : bt' = bt_ ∧ ot' = ot := by simpa using he2.symm
  have HS : Hid (sidesF ts i p = sidesG p.kind p.num s1 s2 (movesF ts an && movesF ts bn) i an bn) := by
    unfold Hid
    rw [sidesF, hab]
    simp only [List.getD_cons_zero, List.getD_cons_succ]
    rw [sortAt_nat ht1, sortAt_nat ht2]
  generalize sidesF ts i p = res at *
  generalize hkn : p.kids.length = kn at *
  subst h2
  obtain ⟨kind, text, num, kids⟩ := p
  simp only at *
  clear htx hpx hkx h hP hr hT hp ht1 ht2 hab hk he he2 hkn hd1 hd2
  rw [Nat.add_zero] at hca
  go_enter Tryz.func85, Tryz.ntmps85
  go_wp2
  go_quiet (fail)
  go_wp2
  go_quiet (fail)
  by_cases hf : s1 = 2 ∨ s1 = 3
  · generalize hfit : (if kind = 7 then decide (s2 = 6) || (decide (s2 = 4) && decide (s1 = 2)) || (decide (s2 = 5) && decide (s1 = 3)) else decide (s2 = s1)) = fit
    have HS2 : Hid (res = if fit = false then some (141, (bn : Int)) else if kind = 6 ∧ s1 = 2 ∧ 2 < num then some (141, (i : Int)) else if movesF ts an && movesF ts bn then some (144, (i : Int)) else none) := by
      rw [HS.out, ← hfit, sidesG, if_neg (by omega)]
      unfold Hid
      by_cases h7 : kind = 7 <;> simp [h7] <;> grind
    have Hfit := Lib.hid hfit
    clear HS hfit
    rcases hf with rfl | rfl
    · skip
      go_upto_if 55 with fail
      go_cut [10] (fun s10 wx => s10 = .bool fit ∧ ∃ q, wx = ((w.alloc (.cells #[.int .i64 kind, .string text, .int .i64 num, .slice (some ⟨bk', ok', none⟩) 2 ck] 66)).drewN q))
      case first =>
        by_cases h7 : kind = 7
        · subst h7
          by_cases h6 : s2 = 6
          · subst h6
            go_wp2
            go_meet
            exact ⟨by rw [← Hfit.out]; rfl, _, rfl⟩
          · by_cases h4 : s2 = 4
            · subst h4
              go_wp2
              go_meet
              exact ⟨by rw [← Hfit.out]; rfl, _, rfl⟩
            · by_cases h5 : s2 = 5
              · subst h5
                go_wp2
                go_meet
                exact ⟨by rw [← Hfit.out]; rfl, _, rfl⟩
              · have Hf3 : Hid (fit = false) := by unfold Hid; rw [← Hfit.out]; simp [h6, h4, h5]
                go_wp2
                go_meet
                exact ⟨by rw [Hf3.out]; simp [h6], _, rfl⟩
        · have h7' : (kind == 7) = false := by simpa using h7
          have Hf3 : Hid (fit = decide (s2 = 2)) := by rw [← Hfit.out, if_neg h7]; rfl
          clear h7
          go_wp2
          go_meet
          exact ⟨by rw [Hf3.out]; congr 1, _, rfl⟩
      case rest =>
        obtain ⟨rfl, q, rfl⟩ := hcut
        clear Hfit
        have HB : Below w.heap.size w ((w.alloc (.cells #[.int .i64 kind, .string text, .int .i64 num, .slice (some ⟨bk', ok', none⟩) 2 ck] 66)).drewN q) := below_drewN (below_box _ _) _
        cases fit with
        | false =>
          have HS3 : Hid (res = some (141, (bn : Int))) := HS2.out
          clear HS2
          go_wp2_with (go_at_call 45; refine (sfault_c _ _ _).mono ?_; rintro e w' ⟨rfl, rfl⟩)
          go_ret
          rw [HS3.out]
          exact ⟨_, rfl, fltV_new (by repeat (first | exact Below.refl _ _ | refine below_drewN ?_ _ | refine below_al ?_ _)) _ _ (by simp)⟩
        | true =>
          have HS3 : Hid (res = if kind = 6 ∧ (2:Int) = 2 ∧ 2 < num then some (141, (i : Int)) else if movesF ts an && movesF ts bn then some (144, (i : Int)) else none) := HS2.out
          clear HS2
          by_cases hc : kind = 6 ∧ (2 : Int) = 2 ∧ 2 < num
          · have HS4 : Hid (res = some (141, (i : Int))) := by rw [HS3.out, if_pos hc]; rfl
            obtain ⟨rfl, hs12, hn⟩ := hc
            clear HS3 hs12
            go_wp2_with (go_at_call 45; refine (sfault_c _ _ _).mono ?_; rintro e w' ⟨rfl, rfl⟩)
            go_ret
            rw [HS4.out]
            exact ⟨_, rfl, fltV_new (by repeat (first | exact Below.refl _ _ | refine below_drewN ?_ _ | refine below_al ?_ _)) _ _ (by simp)⟩
          · have HS4 : Hid (res = if movesF ts an && movesF ts bn then some (144, (i : Int)) else none) := by rw [HS3.out, if_neg hc]; rfl
            have Hc := Lib.hid hc
            clear HS3 hc
            by_cases hm1 : movesF ts an = true
            · by_cases hm2 : movesF ts bn = true
              · have HS5 : Hid (res = some (144, (i : Int))) := by unfold Hid; rw [HS4.out, hm1, hm2]; rfl
                clear HS4
                go_wp2_with (first | (go_at_call 45; refine (sfault_c _ _ _).mono ?_; rintro e w' ⟨rfl, rfl⟩) | (go_at_call 132; refine (moves_c lb _ _ _ ps sc ts _ _ (Hlook.out.below (by repeat (first | exact Below.refl _ _ | refine below_drewN ?_ _ | refine below_al ?_ _))) (by omega)).mono ?_; rintro e w' ⟨rfl, rfl⟩))
                all_goals first
                  | exact absurd ⟨by assumption, by trivial, by assumption⟩ Hc.out
                  | (go_ret; rw [HS5.out]; exact ⟨_, rfl, fltV_new (by repeat (first | exact Below.refl _ _ | refine below_drewN ?_ _ | refine below_al ?_ _)) _ _ (by simp)⟩)
              · have hm2' : movesF ts bn = false := by simpa using hm2
                have HS5 : Hid (res = none) := by unfold Hid; rw [HS4.out, hm1, hm2']; rfl
                clear HS4
                go_wp2_with (first | (go_at_call 45; refine (sfault_c _ _ _).mono ?_; rintro e w' ⟨rfl, rfl⟩) | (go_at_call 132; refine (moves_c lb _ _ _ ps sc ts _ _ (Hlook.out.below (by repeat (first | exact Below.refl _ _ | refine below_drewN ?_ _ | refine below_al ?_ _))) (by omega)).mono ?_; rintro e w' ⟨rfl, rfl⟩))
                all_goals first
                  | exact absurd ⟨by assumption, by trivial, by assumption⟩ Hc.out
                  | (go_ret; rw [HS5.out]; exact ⟨_, rfl, by repeat (first | exact Below.refl _ _ | refine below_drewN ?_ _ | refine below_al ?_ _), rfl⟩)
            · have hm1' : movesF ts an = false := by simpa using hm1
              have HS5 : Hid (res = none) := by unfold Hid; rw [HS4.out, hm1']; rfl
              clear HS4
              go_wp2_with (first | (go_at_call 45; refine (sfault_c _ _ _).mono ?_; rintro e w' ⟨rfl, rfl⟩) | (go_at_call 132; refine (moves_c lb _ _ _ ps sc ts _ _ (Hlook.out.below (by repeat (first | exact Below.refl _ _ | refine below_drewN ?_ _ | refine below_al ?_ _))) (by omega)).mono ?_; rintro e w' ⟨rfl, rfl⟩))
              all_goals first
                | exact absurd ⟨by assumption, by trivial, by assumption⟩ Hc.out
                | (go_ret; rw [HS5.out]; exact ⟨_, rfl, by repeat (first | exact Below.refl _ _ | refine below_drewN ?_ _ | refine below_al ?_ _), rfl⟩)
    · skip
      go_upto_if 55 with fail
      go_cut [10] (fun s10 wx => s10 = .bool fit ∧ ∃ q, wx = ((w.alloc (.cells #[.int .i64 kind, .string text, .int .i64 num, .slice (some ⟨bk', ok', none⟩) 2 ck] 66)).drewN q))
      case first =>
        by_cases h7 : kind = 7
        · subst h7
          by_cases h6 : s2 = 6
          · subst h6
            go_wp2
            go_meet
            exact ⟨by rw [← Hfit.out]; rfl, _, rfl⟩
          · by_cases h4 : s2 = 4
            · subst h4
              go_wp2
              go_meet
              exact ⟨by rw [← Hfit.out]; rfl, _, rfl⟩
            · by_cases h5 : s2 = 5
              · subst h5
                go_wp2
                go_meet
                exact ⟨by rw [← Hfit.out]; rfl, _, rfl⟩
              · have Hf3 : Hid (fit = false) := by unfold Hid; rw [← Hfit.out]; simp [h6, h4, h5]
                go_wp2
                go_meet
                exact ⟨by rw [Hf3.out]; simp [h6], _, rfl⟩
        · have h7' : (kind == 7) = false := by simpa using h7
          have Hf3 : Hid (fit = decide (s2 = 3)) := by rw [← Hfit.out, if_neg h7]; rfl
          clear h7
          go_wp2
          go_meet
          exact ⟨by rw [Hf3.out]; congr 1, _, rfl⟩
      case rest =>
        obtain ⟨rfl, q, rfl⟩ := hcut
        clear Hfit
        have HB : Below w.heap.size w ((w.alloc (.cells #[.int .i64 kind, .string text, .int .i64 num, .slice (some ⟨bk', ok', none⟩) 2 ck] 66)).drewN q) := below_drewN (below_box _ _) _
        cases fit with
        | false =>
          have HS3 : Hid (res = some (141, (bn : Int))) := HS2.out
          clear HS2
          go_wp2_with (go_at_call 45; refine (sfault_c _ _ _).mono ?_; rintro e w' ⟨rfl, rfl⟩)
          go_ret
          rw [HS3.out]
          exact ⟨_, rfl, fltV_new (by repeat (first | exact Below.refl _ _ | refine below_drewN ?_ _ | refine below_al ?_ _)) _ _ (by simp)⟩
        | true =>
          have HS3 : Hid (res = if kind = 6 ∧ (3:Int) = 2 ∧ 2 < num then some (141, (i : Int)) else if movesF ts an && movesF ts bn then some (144, (i : Int)) else none) := HS2.out
          clear HS2
          by_cases hc : kind = 6 ∧ (3 : Int) = 2 ∧ 2 < num
          · exfalso; omega
          · have HS4 : Hid (res = if movesF ts an && movesF ts bn then some (144, (i : Int)) else none) := by rw [HS3.out, if_neg hc]; rfl
            have Hc := Lib.hid hc
            clear HS3 hc
            by_cases hm1 : movesF ts an = true
            · by_cases hm2 : movesF ts bn = true
              · have HS5 : Hid (res = some (144, (i : Int))) := by unfold Hid; rw [HS4.out, hm1, hm2]; rfl
                clear HS4
                go_wp2_with (first | (go_at_call 45; refine (sfault_c _ _ _).mono ?_; rintro e w' ⟨rfl, rfl⟩) | (go_at_call 132; refine (moves_c lb _ _ _ ps sc ts _ _ (Hlook.out.below (by repeat (first | exact Below.refl _ _ | refine below_drewN ?_ _ | refine below_al ?_ _))) (by omega)).mono ?_; rintro e w' ⟨rfl, rfl⟩))
                all_goals first
                  | exact absurd ⟨by assumption, by trivial, by assumption⟩ Hc.out
                  | (go_ret; rw [HS5.out]; exact ⟨_, rfl, fltV_new (by repeat (first | exact Below.refl _ _ | refine below_drewN ?_ _ | refine below_al ?_ _)) _ _ (by simp)⟩)
              · have hm2' : movesF ts bn = false := by simpa using hm2
                have HS5 : Hid (res = none) := by unfold Hid; rw [HS4.out, hm1, hm2']; rfl
                clear HS4
                go_wp2_with (first | (go_at_call 45; refine (sfault_c _ _ _).mono ?_; rintro e w' ⟨rfl, rfl⟩) | (go_at_call 132; refine (moves_c lb _ _ _ ps sc ts _ _ (Hlook.out.below (by repeat (first | exact Below.refl _ _ | refine below_drewN ?_ _ | refine below_al ?_ _))) (by omega)).mono ?_; rintro e w' ⟨rfl, rfl⟩))
                all_goals first
                  | exact absurd ⟨by assumption, by trivial, by assumption⟩ Hc.out
                  | (go_ret; rw [HS5.out]; exact ⟨_, rfl, by repeat (first | exact Below.refl _ _ | refine below_drewN ?_ _ | refine below_al ?_ _), rfl⟩)
            · have hm1' : movesF ts an = false := by simpa using hm1
              have HS5 : Hid (res = none) := by unfold Hid; rw [HS4.out, hm1']; rfl
              clear HS4
              go_wp2_with (first | (go_at_call 45; refine (sfault_c _ _ _).mono ?_; rintro e w' ⟨rfl, rfl⟩) | (go_at_call 132; refine (moves_c lb _ _ _ ps sc ts _ _ (Hlook.out.below (by repeat (first | exact Below.refl _ _ | refine below_drewN ?_ _ | refine below_al ?_ _))) (by omega)).mono ?_; rintro e w' ⟨rfl, rfl⟩))
              all_goals first
                | exact absurd ⟨by assumption, by trivial, by assumption⟩ Hc.out
                | (go_ret; rw [HS5.out]; exact ⟨_, rfl, by repeat (first | exact Below.refl _ _ | refine below_drewN ?_ _ | refine below_al ?_ _), rfl⟩)
  · have HS2 : Hid (res = some (141, (an : Int))) := by rw [HS.out, sidesG, if_pos (by omega)]; rfl
    have h12 : (s1 != 2) = true := by simp; omega
    have h13 : (s1 != 3) = true := by simp; omega
    clear HS
    go_wp2_with (go_at_call 45; refine (sfault_c _ _ _).mono ?_; rintro e w' ⟨rfl, rfl⟩)
    go_ret
    rw [HS2.out]
    exact ⟨_, rfl, fltV_new (by repeat (first | exact Below.refl _ _ | refine below_drewN ?_ _ | refine below_al ?_ _)) _ _ (by simp)⟩
end Go.Proofs.YtldnkeackphilaaGreatDoor
namespace Go.Proofs.YtldnkeackphilaaGreatDoor
open Go.RowKit

def selectorF (sc : List Int) (ts : List (Int × Int)) (i : Int) (p : Part) : Option (Int × Int) :=
  if sc.getD i.toNat 0 ≠ 2 then some (143, i) else if keyF p.text = false then some (147, i) else boolsF ts p.kids

set_option maxRecDepth 100000 in
set_option maxHeartbeats 2000000 in
theorem selector_c (lb : Nat) (pv sv tv : Value) (ps : List Part) (sc : List Int) (ts : List (Int × Int)) (i : Nat) (p : Part) (w : World) (h : Look w lb pv sv tv ps sc ts) (hp : ps[i]? = some p)
    (hk : ∀ k ∈ p.kids, 0 ≤ k ∧ k < ts.length) (hsl : i < sc.length) (htx : p.text.size ≤ 127) (hG : Glob w) :
    Calls Tryz.prog 86 #[.pointer (some ⟨lb, 0, none⟩), .int .i64 i] w fun e w' => ∃ v, e = .returned v ∧ FltV w (selectorF sc ts i p) v w' := by
  obtain ⟨hc0, hc1, hc2, hlb, hP, hS, hT⟩ := id h
  have Hlook := Lib.hid h
  have HG := Lib.hid hG
  have Hk := Lib.hid hk
  obtain ⟨Ap, cp, rfl, hpl, hpx⟩ := id hP
  obtain ⟨bp, op, kv, rfl, hbp, hr, h0, h1, h3, h4⟩ := hP.get hp
  have hil : i < ps.length := (List.getElem?_eq_some_iff.1 hp).1
  obtain ⟨As, cs, rfl, hsn, hsx⟩ := id hS
  obtain ⟨s, hs⟩ : ∃ s, sc[i]? = some s := ⟨_, List.getElem?_eq_getElem hsl⟩
  obtain ⟨-, bs, os, rfl, hbs, hcs⟩ := hsx i s hs
  have HKids := Lib.hid hr.2.2.2
  obtain ⟨-, -, -, Ak, ck, rfl, -, -⟩ := id hr
  have HS : Hid (selectorF sc ts i p = if s ≠ 2 then some (143, (i : Int)) else if keyF p.text = false then some (147, (i : Int)) else boolsF ts p.kids) := by
    unfold Hid
    rw [selectorF]
    simp only [Int.toNat_natCast, List.getD_eq_getElem?_getD, hs, Option.getD_some]
  generalize selectorF sc ts i p = res at *
  clear hpx hsx hs h hP hr hS hT hk hp hG
  go_enter Tryz.func86, Tryz.ntmps86
  by_cases hs2 : s = 2
  · subst hs2
    by_cases hky : keyF p.text = true
    · have HS2 : Hid (res = boolsF ts p.kids) := by unfold Hid; rw [HS.out]; simp [hky]
      clear HS
      go_wp2_with (first | (go_at_call 133; refine (isKey_c _ _ (by omega) (HG.out.below (by repeat (first | exact Below.refl _ _ | assumption | refine below_drewN ?_ _ | refine below_al ?_ _)))).mono ?_; rintro e w1 ⟨rfl, hB⟩; obtain ⟨hcb, hfb⟩ := bcell hB; have hB2 := hB.size; have HB : Below w.heap.size w w1 := below_then (by repeat (first | exact Below.refl _ _ | assumption | refine below_drewN ?_ _ | refine below_al ?_ _)) (by simp) hB; clear hB; simp only [World.size_alloc] at hB2) | (go_at_call 84; refine (bools_c lb _ _ _ ps sc ts _ p.kids _ (Hlook.out.below HB) (HKids.out.below HB) Hk.out).mono ?_; rintro e w2 ⟨v, rfl, hv⟩))
      go_ret
      rw [HS2.out]
      exact ⟨_, rfl, hv.from HB⟩
    · have hky' : keyF p.text = false := by simpa using hky
      have HS2 : Hid (res = some (147, (i : Int))) := by unfold Hid; rw [HS.out]; simp [hky']
      clear HS
      go_wp2_with (first | (go_at_call 133; refine (isKey_c _ _ (by omega) (HG.out.below (by repeat (first | exact Below.refl _ _ | assumption | refine below_drewN ?_ _ | refine below_al ?_ _)))).mono ?_; rintro e w1 ⟨rfl, hB⟩; have HB : Below w.heap.size w w1 := below_then (by repeat (first | exact Below.refl _ _ | assumption | refine below_drewN ?_ _ | refine below_al ?_ _)) (by simp) hB; clear hB) | (go_at_call 45; refine (sfault_c _ _ _).mono ?_; rintro e w' ⟨rfl, rfl⟩))
      go_ret
      rw [HS2.out]
      exact ⟨_, rfl, fltV_new HB _ _ rfl⟩
  · have hs2' : (s != 2) = true := by simpa using hs2
    have HS2 : Hid (res = some (143, (i : Int))) := by unfold Hid; rw [HS.out]; simp [hs2]
    clear HS
    go_wp2_with (go_at_call 45; refine (sfault_c _ _ _).mono ?_; rintro e w' ⟨rfl, rfl⟩)
    go_ret
    rw [HS2.out]
    exact ⟨_, rfl, fltV_new (by repeat (first | exact Below.refl _ _ | assumption | refine below_drewN ?_ _ | refine below_al ?_ _)) _ _ (by simp)⟩

def TypP (w : World) (r : (Int × Int) ⊕ (Int × Int)) (e : Ending) (w' : World) : Prop :=
  ∃ (s d : Int) (fv : Value), e = .returned (.tuple #[.agg #[.int .i64 s, .int .i64 d], fv]) ∧
    match r with
    | .inl f => FltV w (some f) fv w'
    | .inr t => FltV w none fv w' ∧ t = (s, d)
def setF (ts : List (Int × Int)) (kids : List Int) : (Int × Int) ⊕ (Int × Int) :=
  match kids with
  | [] => .inr (6, 0)
  | k0 :: _ =>
    match kids.find? fun k => decide (sortAt ts k ≠ sortAt ts k0) with
    | some k => .inl (146, k)
    | none => if sortAt ts k0 = 2 then .inr (4, 0) else .inr (5, 0)
end Go.Proofs.YtldnkeackphilaaGreatDoor
