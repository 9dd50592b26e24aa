/- Scopes in a checked tree: a part is the kid of one part alone; its scope is that of what it stands in. -/
import Derived.Test.YtldnkeackphilaaGreatDoorNr17
import Derived.Test.YtldnkeackphilaaGreatDoorNr11
import Derived.Test.YtldnkeackphilaaGreatDoorNr10
import Derived.Test.YtldnkeackphilaaGreatDoorNr13
set_option linter.unusedSimpArgs false
set_option linter.unusedVariables false
namespace Go.Proofs.YtldnkeackphilaaGreatDoor

theorem shapeGo_from (ps : List Part) : ∀ (l : List Part) (i : Nat) (free f : List Int), shapeGo ps l i free = .inr f → ∀ (j : Nat) p, l[j]? = some p → ∀ k ∈ p.kids, k ∈ free ∨ (i : Int) ≤ k
  | [], _, _, _, _ => fun j p hj => by simp at hj
  | q :: r, i, free, f, h => fun j p hj k hk => by
    rw [shapeGo] at h
    split at h
    · next hok =>
      simp only [partOk, Bool.and_eq_true, decide_eq_true_eq] at hok
      obtain ⟨⟨⟨h1, h2⟩, h3⟩, h4⟩ := hok
      match j with
      | 0 =>
        cases hj
        rw [h3] at hk
        exact .inl (List.mem_of_mem_drop hk)
      | j + 1 =>
        rcases shapeGo_from ps r (i + 1) _ f h j p (by simpa using hj) k hk with h5 | h5
        · rcases List.mem_append.1 h5 with h5 | h5
          · exact .inl (List.mem_of_mem_take h5)
          · simp at h5; exact .inr (by omega)
        · exact .inr (by omega)
    · cases h
theorem nodup_drop_take {l : List Int} (h : l.Nodup) (n : Nat) {k : Int} (hk : k ∈ l.drop n) : k ∉ l.take n := by
  rw [← List.take_append_drop n l, List.nodup_append] at h
  exact fun hk' => h.2.2 k hk' k hk rfl
theorem shapeGo_uniq (ps : List Part) : ∀ (l : List Part) (i : Nat) (free f : List Int), shapeGo ps l i free = .inr f → free.Nodup → (∀ x ∈ free, 0 ≤ x ∧ x < (i : Int)) →
    ∀ (a b : Nat) p q, l[a]? = some p → l[b]? = some q → a < b → ∀ k ∈ p.kids, k ∉ q.kids
  | [], _, _, _, _, _, _ => fun a b p q ha => by simp at ha
  | x :: r, i, free, f, h, hn, hf => fun a b p q ha hb hab k hk => by
    rw [shapeGo] at h
    split at h
    · next hok =>
      simp only [partOk, Bool.and_eq_true, decide_eq_true_eq] at hok
      obtain ⟨⟨⟨h1, h2⟩, h3⟩, h4⟩ := hok
      have hn' : (free.take (free.length - x.kids.length) ++ [(i : Int)]).Nodup := by
        rw [List.nodup_append]
        refine ⟨hn.sublist (List.take_sublist _ _), by simp, fun y hy z hz e => ?_⟩
        simp at hz
        have := hf y (List.mem_of_mem_take hy)
        omega
      have hf' : ∀ y ∈ free.take (free.length - x.kids.length) ++ [(i : Int)], 0 ≤ y ∧ y < ((i + 1 : Nat) : Int) := fun y hy => by
        rcases List.mem_append.1 hy with hy | hy
        · have := hf y (List.mem_of_mem_take hy); omega
        · simp at hy; omega
      match b, hab with
      | b + 1, hab =>
        have hb' : r[b]? = some q := by simpa using hb
        match a with
        | 0 =>
          cases ha
          intro hkq
          have hkf : k ∈ free.drop (free.length - x.kids.length) := by rw [← h3]; exact hk
          have hki := hf k (List.mem_of_mem_drop hkf)
          rcases shapeGo_from ps r (i + 1) _ f h b q hb' k hkq with h5 | h5
          · rcases List.mem_append.1 h5 with h5 | h5
            · exact nodup_drop_take hn _ hkf h5
            · simp at h5; omega
          · omega
        | a + 1 => exact shapeGo_uniq ps r (i + 1) _ f h hn' hf' a b p q (by simpa using ha) hb' (by omega) k hk
    · cases h
theorem one_parent {ps : List Part} (hv : validF ps = none) {i j : Nat} {p q : Part} (hp : ps[i]? = some p) (hq : ps[j]? = some q) {k : Int} (h1 : k ∈ p.kids) (h2 : k ∈ q.kids) : i = j := by
  have hs := shape_of_valid hv
  unfold shapeF at hs
  split at hs
  · cases hs
  split at hs
  · cases hs
  split at hs
  · cases hs
  next f hf =>
  have hu := shapeGo_uniq ps ps 0 [] f hf (by simp) (by simp)
  rcases Nat.lt_trichotomy i j with h | h | h
  · exact absurd h2 (hu i j p q hp hq h k h1)
  · exact h
  · exact absurd h1 (hu j i q p hq hp h k h2)
theorem scopeKids_not (below : Int) (i : Nat) : ∀ (kids : List Int) (out : List Int), (∀ k ∈ kids, 0 ≤ k) → (i : Int) ∉ kids → (scopeKids below kids out)[i]? = out[i]?
  | [], out, _, _ => rfl
  | k :: r, out, h, hi => by
    have h1 := h k (by simp)
    have h2 : (i : Int) ≠ k := fun e => hi (by simp [e])
    have : scopeKids below (k :: r) out = scopeKids below r (out.set k.toNat below) := rfl
    rw [this, scopeKids_not below i r _ (fun x hx => h x (by simp [hx])) (fun hx => hi (by simp [hx])), List.getElem?_set_ne (by omega)]
theorem scopeKids_hit (below : Int) (i : Nat) : ∀ (kids : List Int) (out : List Int), (∀ k ∈ kids, 0 ≤ k) → (i : Int) ∈ kids → i < out.length → (scopeKids below kids out)[i]? = some below
  | k :: r, out, h, hi, hl => by
    have e : scopeKids below (k :: r) out = scopeKids below r (out.set k.toNat below) := rfl
    rw [e]
    by_cases hr : (i : Int) ∈ r
    · exact scopeKids_hit below i r _ (fun x hx => h x (by simp [hx])) hr (by simpa using hl)
    · rw [scopeKids_not below i r _ (fun x hx => h x (by simp [hx])) hr]
      have : k = i := by rcases List.mem_cons.1 hi with h' | h'; exact h'.symm; exact absurd h' hr
      subst this
      simp [hl]
set_option linter.unusedSectionVars false
section
variable {ps : List Part} (hw : WF ps)
include hw
theorem step_len (out : List Int) (i : Nat) : (scopeStep ps out i).length = out.length := by
  unfold scopeStep
  split
  · rfl
  · exact scopeKids_len _ _ _
theorem fold_len : ∀ (l : List Nat) (out : List Int), (l.foldr (fun i o => scopeStep ps o i) out).length = out.length
  | [], _ => rfl
  | i :: l, out => by rw [List.foldr_cons, step_len hw, fold_len l]
theorem step_not (out : List Int) (i k : Nat) (h : ∀ p, ps[i]? = some p → (k : Int) ∉ p.kids) : (scopeStep ps out i)[k]? = out[k]? := by
  unfold scopeStep
  split
  · rfl
  · next p hp => exact scopeKids_not _ _ _ _ (fun x hx => (hw.kids i p hp x hx).1) (h p hp)
theorem fold_not (k : Nat) : ∀ (l : List Nat) (out : List Int), (∀ i ∈ l, ∀ p, ps[i]? = some p → (k : Int) ∉ p.kids) → (l.foldr (fun i o => scopeStep ps o i) out)[k]? = out[k]?
  | [], _, _ => rfl
  | i :: l, out, h => by
    rw [List.foldr_cons, step_not hw _ i k (h i (by simp)), fold_not k l out fun j hj => h j (by simp [hj])]
end
def scopeAt (ps : List Part) (scope : Int) (i : Nat) : Int := (scopesF ps scope).getD i 0
theorem scope_kid {ps : List Part} (hv : validF ps = none) (scope : Int) {i : Nat} {p : Part} (hp : ps[i]? = some p) {k : Nat} (hk : (k : Int) ∈ p.kids) : scopeAt ps scope k = if selK p.kind then 3 else scopeAt ps scope i := by
  have hw := wf_of_shape (shape_of_valid hv)
  have hil := (List.getElem?_eq_some_iff.1 hp).1
  have hki := hw.kids i p hp k hk
  obtain ⟨init, hinit⟩ : ∃ x, x = (List.replicate ps.length (0 : Int)).set (ps.length - 1) scope := ⟨_, rfl⟩
  have hlen : init.length = ps.length := by rw [hinit]; simp
  have e : scopesF ps scope = (List.range ps.length).foldr (fun i o => scopeStep ps o i) init := by
    unfold scopesF
    rw [List.foldl_reverse, hinit]
  obtain ⟨A, hA⟩ : ∃ A, A = (List.range' (i + 1) (ps.length - (i + 1))).foldr (fun i o => scopeStep ps o i) init := ⟨_, rfl⟩
  have hsplit : List.range ps.length = List.range' 0 i ++ (i :: List.range' (i + 1) (ps.length - (i + 1))) := by
    rw [List.range_eq_range', show ps.length = i + (1 + (ps.length - (i + 1))) from by omega, ← List.range'_append_1, Nat.zero_add]
    congr 1
    rw [Nat.add_comm 1, List.range'_succ]
    congr 2
    omega
  have e2 : scopesF ps scope = (List.range' 0 i).foldr (fun i o => scopeStep ps o i) (scopeStep ps A i) := by rw [e, hsplit, List.foldr_append, List.foldr_cons, hA]
  have hAl : A.length = ps.length := by rw [hA, fold_len hw, hlen]
  have low : ∀ j ∈ List.range' 0 i, j < i := fun j hj => by have := List.mem_range'_1.1 hj; omega
  have h1 : (scopesF ps scope)[i]? = A[i]? := by
    rw [e2, fold_not hw i _ _ fun j hj q hq hm => by have := hw.kids j q hq _ hm; have := low j hj; omega]
    exact step_not hw A i i fun q hq hm => by have := hw.kids i q hq _ hm; omega
  have h2 : (scopesF ps scope)[k]? = (scopeStep ps A i)[k]? := by
    rw [e2, fold_not hw k _ _ fun j hj q hq hm => by have := one_parent hv hp hq hk hm; have := low j hj; omega]
  have h3 : (scopeStep ps A i)[k]? = some (if selK p.kind then 3 else A.getD i 0) := by
    unfold scopeStep
    rw [hp]
    exact scopeKids_hit _ k _ _ (fun x hx => (hw.kids i p hp x hx).1) hk (by omega)
  unfold scopeAt
  rw [List.getD_eq_getElem?_getD, List.getD_eq_getElem?_getD, h2, h3, h1]
  rw [List.getD_eq_getElem?_getD]
  rfl
theorem scope_root {ps : List Part} (hv : validF ps = none) (scope : Int) : scopeAt ps scope (ps.length - 1) = scope := by
  have hw := wf_of_shape (shape_of_valid hv)
  have hpos := hw.pos
  unfold scopeAt scopesF
  rw [List.foldl_reverse, List.getD_eq_getElem?_getD, fold_not hw _ _ _ fun j hj q hq hm => by
    have := hw.kids j q hq _ hm
    have := List.mem_range.1 hj
    omega]
  rw [List.getElem?_set_self (by simp; omega)]
  rfl
end Go.Proofs.YtldnkeackphilaaGreatDoor
namespace Go.Proofs.YtldnkeackphilaaGreatDoor

inductive GoodT : Bool → Tr → Prop
  | mk (b : Bool) (k : Int) (neg : Bool) (l : LitD) (kids : List Tr) (sel : Option Tr) (h1 : neg = true → k = 5) (h2 : l.kind = 2 → l.rel = 4 ∨ l.rel = 6) (h3 : l.kind = 3 → l.rel ≠ 2) (h4 : (l.kind = 7 ∨ l.term.kind = 6) ↔ sel.isSome = true)
      (h5 : ∀ t ∈ kids, t.kind ≠ 1 ∧ t.kind ≠ 2) (h6 : k = 1 ∨ k = 2 → kids = [] ∧ sel = none) (h7 : ∀ t ∈ kids, GoodT b t) (h8 : ∀ u, sel = some u → b = true) (h9 : ∀ u, sel = some u → GoodT false u) : GoodT b (.mk k neg l kids sel)
set_option linter.unusedSectionVars false
section
variable {ps : List Part} {scope : Int} {ts : List (Int × Int)} (ht : Typed ps scope ts)
include ht
def selB (ps : List Part) (scope : Int) (i : Nat) : Bool := decide (scopeAt ps scope i = 2)
theorem sel_scope {i : Nat} {p : Part} (hp : ps[i]? = some p) (hk : p.kind = 8 ∨ p.kind = 9 ∨ p.kind = 20) : scopeAt ps scope i = 2 := by
  obtain ⟨t, h1, h2⟩ := ht.each i p hp
  have hs : selectorF (scopesF ps scope) (ts.take i) i p = none := by
    have orE : ∀ {f : Option (Int × Int)} {u : Int × Int}, orElse f u = .inr t → f = none := fun {f u} h => by
      unfold orElse at h
      split at h
      · cases h
      · rfl
    have hne : ¬(p.kind = 1 ∨ p.kind = 2) ∧ ¬(p.kind = 3 ∨ p.kind = 4 ∨ p.kind = 5) ∧ ¬(p.kind = 6 ∨ p.kind = 7) := by omega
    rw [typeF, if_neg hne.1, if_neg hne.2.1, if_neg hne.2.2] at h2
    by_cases h89 : p.kind = 8 ∨ p.kind = 9
    · rw [if_pos h89] at h2; exact orE h2
    · rw [if_neg h89, if_pos (by omega)] at h2; exact orE h2
  unfold selectorF at hs
  split at hs
  · cases hs
  · next h => simpa [scopeAt] using h
variable (c : Int → Int → Tr) (hc : ∀ (j : Nat) p s, ps[j]? = some p → 1 ≤ p.kind ∧ p.kind ≤ 10 → GoodT (selB ps scope j) (c j s))
include hc
end
end Go.Proofs.YtldnkeackphilaaGreatDoor
namespace Go.Proofs.YtldnkeackphilaaGreatDoor

theorem Tryz.mixed : Tryz.prog.follows .mixedOrders = true := by kernel_rfl
theorem X.mixed : Tryz.prog.follows .mixedOrders = true := Tryz.mixed
end Go.Proofs.YtldnkeackphilaaGreatDoor
namespace Go.Proofs.YtldnkeackphilaaGreatDoor
open Go.RowKit

set_option maxRecDepth 8000

def sideF (s : Int) (pods : Bool) : Bool := s == 1 || (s == 3 && pods) || (s == 2 && !pods)
namespace X
end X
def textF (t : TermD) : Bool := t.kind == 2 || t.kind == 3
namespace X
end X
def numberF (t : TermD) : Bool := decide (t.kind ≥ 4) && decide (t.kind ≤ 6)
namespace X
end X
def ofPodF (t : TermD) : Bool := t.kind == 1 || t.side == 1
namespace X
end X
def termF (t : TermD) (pods : Bool) (sels : Int) : Bool :=
  if t.key.size > 127 then false
  else if t.kind = 1 then t.side == 0 && t.sel == 0
  else if t.kind = 2 ∨ t.kind = 4 then sideF t.side pods && t.sel == 0
  else if t.kind = 3 then sideF t.side pods && t.sel == 0 && t.key.toList == []
  else if t.kind = 5 then !pods && t.side == 0 && t.sel == 0
  else if t.kind = 6 then !pods && t.side == 0 && decide (t.sel ≥ 0) && decide (t.sel < sels)
  else false
namespace X
end X
end Go.Proofs.YtldnkeackphilaaGreatDoor
namespace Go.Proofs.YtldnkeackphilaaGreatDoor
open Go.RowKit

set_option maxRecDepth 8000

def leqS (x y : ByteArray) : Bool := Op.bytesLess x.toList y.toList || x.toList == y.toList
def textAt (l : List ByteArray) (i : Nat) : Bool := !decide ((l.getD i noText).size > 127) && !(decide (0 < i) && leqS (l.getD i noText) (l.getD (i - 1) noText))
def numAt (l : List Int) (i : Nat) : Bool := !(decide (l.getD i 0 < -999999999999999999) || decide (l.getD i 0 > 999999999999999999)) && !(decide (0 < i) && decide (l.getD i 0 ≤ l.getD (i - 1) 0))
def risingNumsF (l : List Int) : Bool := (List.range l.length).all (numAt l)
def risingTextsF (l : List ByteArray) : Bool := (List.range l.length).all (textAt l)
theorem all_upto {n : Nat} {f : Nat → Bool} : ((List.range (n + 1)).all f) = ((List.range n).all f && f n) := by
  simp [List.range_succ]
theorem all_false {n i : Nat} {f : Nat → Bool} (hi : i < n) (h : f i = false) : (List.range n).all f = false := by
  rw [Bool.eq_false_iff]
  intro ha
  rw [List.all_eq_true] at ha
  have := ha i (List.mem_range.2 hi)
  rw [h] at this
  cases this
theorem ex_at {α : Type} {l : List α} {i : Nat} (h : i < l.length) : ∃ x, l[i]? = some x := ⟨_, List.getElem?_eq_getElem h⟩
def Upto (f : Nat → Bool) (i : Nat) : Prop := (List.range i).all f = true
theorem Upto.zero (f : Nat → Bool) : Upto f 0 := rfl
theorem Upto.next {f : Nat → Bool} {i : Nat} (hok : Upto f i) (hf : f i = true) : Upto f (i + 1) := by
  unfold Upto at *
  rw [all_upto, hok, hf]
  rfl
theorem wrapN {n : Nat} (h : n ≤ 35184372088064) : IntKind.i64.wrap ((n : Int) + 1) = (n : Int) + 1 := X.wrap64 (by omega) (by omega)
theorem wrapP {n : Nat} (h : n ≤ 35184372088064) : IntKind.i64.wrap ((n : Int) - 1) = (n : Int) - 1 := X.wrap64 (by omega) (by omega)
namespace X
end X
end Go.Proofs.YtldnkeackphilaaGreatDoor
namespace Go.Proofs.YtldnkeackphilaaGreatDoor
open Go.RowKit

set_option maxRecDepth 8000

def eqT (a b : TermD) : Bool := a.kind == b.kind && (a.side == b.side && (a.key.toList == b.key.toList && a.sel == b.sel))
def restF (l : LitD) (sets rel num other of_ key : Bool) : Bool :=
  !(!sets && (decide (l.texts.length > 0) || decide (l.nums.length > 0))) &&
  !((!rel && l.rel != 0) || (!num && l.num != 0) || (!other && !(eqT l.other .zero))) &&
  ((of_ || l.of_ == 0) && (key || (l.key.toList == [] && l.sel == 0)))
theorem noText_l : noText.toList = [] := by simp [noText]
namespace X
end X
def LitD.fits (l : LitD) : Prop := l.texts.length ≤ 35184372088064 ∧ l.nums.length ≤ 35184372088064
def inF (l : LitD) : Bool := if textF l.term then l.nums.length == 0 && risingTextsF l.texts else numberF l.term && l.texts.length == 0 && risingNumsF l.nums
namespace X
end X
def relF (l : LitD) : Bool := numberF l.term && (if l.rel = 4 then decide (l.num ≥ -1000000000000000000) && decide (l.num ≤ 999999999999999999) else l.rel == 6 && decide (l.num ≥ -999999999999999999) && decide (l.num ≤ 1000000000000000000))
namespace X
end X
def podF (l : LitD) : Bool := l.other.side == 1 && (if textF l.term then l.rel == 1 && textF l.other else numberF l.term && l.other.kind == 4 && decide (l.rel ≥ 1) && decide (l.rel ≤ 6) && l.rel != 2)
namespace X
end X
def zeroF (l : LitD) : Bool := l.kind == 0 && eqT l.term .zero && restF l false false false false false false
namespace X
end X
end Go.Proofs.YtldnkeackphilaaGreatDoor
namespace Go.Proofs.YtldnkeackphilaaGreatDoor
open Go.RowKit

set_option maxRecDepth 8000

def litF (l : LitD) (pods : Bool) (sels : Int) : Bool :=
  if l.key.size > 127 then false
  else if l.kind = 6 ∨ l.kind = 7 then
    !(pods || !(eqT l.term .zero) || !(restF l false false false false false true)) && (if l.kind = 6 then l.sel == 0 else decide (l.sel ≥ 0) && decide (l.sel < sels))
  else termF l.term pods sels && (
    if l.kind = 1 then inF l && restF l true false false false false false
    else if l.kind = 2 then relF l && restF l false true true false false false
    else if l.kind = 3 then termF l.other pods sels && podF l && restF l false true false true false false
    else if l.kind = 4 then !(!(sideF l.of_ pods) || (l.term.kind != 1 && !textF l.term)) && (l.of_ == 1 || ofPodF l.term) && restF l false false false false true false
    else if l.kind = 5 then !pods && (l.term.kind == 1 || textF l.term) && ofPodF l.term && restF l false false false false false false
    else false)
namespace X
end X
end Go.Proofs.YtldnkeackphilaaGreatDoor
namespace Go.Proofs.YtldnkeackphilaaGreatDoor
open Go.RowKit

set_option maxRecDepth 8000

def PartD.fits (p : PartD) : Prop := p.lit.fits ∧ p.kids.length ≤ 35184372088064
structure FitsL (l : List PartD) : Prop where
  len : l.length ≤ 4398046511104
  each : ∀ p ∈ l, p.fits
def partWt (p : PartD) : Nat := 1 + p.lit.texts.length + p.lit.nums.length
def measF : List PartD → Nat → Nat
  | [], n => n
  | p :: l, n => if n ≤ 1000 then measF l (n + partWt p) else n
theorem drop_at {α : Type} {l : List α} {i : Nat} {x : α} (h : l[i]? = some x) : l.drop i = x :: l.drop (i + 1) := by
  obtain ⟨h1, h2⟩ := List.getElem?_eq_some_iff.1 h
  rw [List.drop_eq_getElem_cons h1, h2]
namespace X
end X
def measP : List (List PartD) → Nat → Nat
  | [], n => n
  | l :: ls, n => if n ≤ 1000 then measP ls (n + measF l 0) else n
def measureF (p : PlanD) : Nat := if measP p.sels (measF p.main 0) > 1000 then 1001 else measP p.sels (measF p.main 0)
structure FitsP (p : PlanD) : Prop where
  main : FitsL p.main
  len : p.sels.length ≤ 35184372088064
  each : ∀ l ∈ p.sels, FitsL l
namespace X
end X
end Go.Proofs.YtldnkeackphilaaGreatDoor
namespace Go.Proofs.YtldnkeackphilaaGreatDoor
open Go.RowKit

set_option maxRecDepth 8000

def stepOk (pods : Bool) (sels : Int) (free : List Int) (p : PartD) : Bool :=
  let joins := p.kind == 3 || p.kind == 4
  !(decide (p.kind < 1) || decide (p.kind > 5) || decide (p.kids.length > free.length) || (joins != decide (p.kids.length ≥ 2)) || (!joins && decide (p.kids.length > 0))) &&
  !(p.kind == 5 && !litF p.lit pods sels) && !(p.kind != 5 && (p.neg || !zeroF p.lit)) &&
  (p.kids == free.drop (free.length - p.kids.length))
def stepF (free : List Int) (i : Nat) (p : PartD) : List Int := free.take (free.length - p.kids.length) ++ [(i : Int)]
def freeF (pods : Bool) (sels : Int) : List PartD → Nat → List Int → Option (List Int)
  | [], _, free => some free
  | p :: l, i, free => if stepOk pods sels free p then freeF pods sels l (i + 1) (stepF free i p) else none
def listF (l : List PartD) (pods : Bool) (sels : Int) : Bool := match freeF pods sels l 0 [] with
  | some free => free.length == 1
  | none => false
namespace X
end X
end Go.Proofs.YtldnkeackphilaaGreatDoor
namespace Go.Proofs.YtldnkeackphilaaGreatDoor
open Go.RowKit

set_option maxRecDepth 8000

def selAt (p : PlanD) (i : Nat) : Bool := listF (p.sels.getD i []) true 0
def forF (p : PlanD) (pods : Bool) : Bool := !(decide (measureF p > 1000) || (pods && decide (p.sels.length > 0))) && listF p.main pods p.sels.length && (List.range p.sels.length).all (selAt p)
namespace X
end X
def planOkF (p : PlanD) : Bool := forF p false || forF p true
namespace X
end X
end Go.Proofs.YtldnkeackphilaaGreatDoor
namespace Go.Proofs.YtldnkeackphilaaGreatDoor
open Go.RowKit

set_option maxRecDepth 8000

structure LookD where
  sels : Int
  node : Bool
def lookA (w : LookD) : AV := .ptr [iA w.sels, bA w.node]
def moverF (w : LookD) : Int := if w.node then 2 else 3
namespace X
theorem mover_h (w : LookD) : Has Tryz.prog 197 [lookA w] (iA (moverF w)) noTok := by
  refine fnX mixed ⟨[0, 2, 6], [], [], [], []⟩ Tryz.func197 rfl rfl rfl (by kernel_rfl) rfl ?_
  simp [lookA]
  all_goals grind [moverF]
end X
def placeF (w : LookD) (sel : Int) : Bool := decide (sel ≥ 0) && decide (sel < w.sels)
namespace X
theorem place_h (w : LookD) (sel : Int) : Has Tryz.prog 166 [lookA w, iA sel] (bA (placeF w sel)) noTok := by
  refine fnX mixed ⟨[0, 1, 4], [], [], [], []⟩ Tryz.func166 rfl rfl rfl (by kernel_rfl) rfl ?_
  simp [lookA, placeF]
theorem fitsText_h (s : ByteArray) : Has Tryz.prog 159 [sA s] (bA (decide (s.size ≤ 127))) noTok := by
  refine fnX mixed ⟨[0, 2], [], [], [], []⟩ Tryz.func159 rfl rfl rfl (by kernel_rfl) rfl ?_
  simp
  all_goals grind
end X
def fitsNumF (n : Int) : Bool := decide (n ≥ -999999999999999999) && decide (n ≤ 999999999999999999)
namespace X
theorem fitsNum_h (n : Int) : Has Tryz.prog 162 [iA n] (bA (fitsNumF n)) noTok := by
  refine fnX mixed ⟨[0, 2], [], [], [], []⟩ Tryz.func162 rfl rfl rfl (by kernel_rfl) rfl ?_
  simp [fitsNumF]
end X
def plainTextF (t : TermD) : Bool := t.kind == 1 && t.side == 0 && t.sel == 0 && decide (t.key.size ≤ 127)
namespace X
theorem plainText_h (t : TermD) : Has Tryz.prog 165 [.agg (termCs t)] (bA (plainTextF t)) noTok := by
  refine fnX mixed ⟨[0, 1, 2], [1], [], [], []⟩ Tryz.func165 rfl rfl rfl (by kernel_rfl) rfl ?_
  simp [termCs]
  all_goals grind [plainTextF]
end X
def textTermF (w : LookD) (t : TermD) : Bool := !(t.sel != 0 || (t.side != 1 && t.side != moverF w)) && ((t.kind == 2 && decide (t.key.size ≤ 127)) || (t.kind == 3 && t.key.toList == []))
namespace X
theorem textTerm_h (w : LookD) (t : TermD) : Has Tryz.prog 157 [lookA w, .agg (termCs t)] (bA (textTermF w t)) noTok := by
  refine fnX mixed ⟨[0, 1, 3, 4, 19], [3], [(3, [3]), (5, [3]), (9, [3]), (13, [3])], [], []⟩ Tryz.func157 rfl rfl rfl (by kernel_rfl) rfl ?_
  simp [termCs, lookA]
  repeat' first
    | (refine callG_of (fun _ => mover_h w) (by simp) (by simp) ?_; simp)
    | (refine .inl (callG_of (fun _ => mover_h w) (by simp) (by simp) ?_); simp)
    | refine And.intro ?_ ?_
    | intro _
  all_goals grind [textTermF]
end X
def numberTermF (w : LookD) (t : TermD) : Bool :=
  if t.key.size > 127 then false
  else if t.kind = 4 then t.sel == 0 && (t.side == 1 || t.side == moverF w)
  else if t.kind = 5 then w.node && t.sel == 0 && t.side == 0
  else if t.kind = 6 then w.node && placeF w t.sel && t.side == 0
  else false
namespace X
theorem numberTerm_h (w : LookD) (t : TermD) : Has Tryz.prog 160 [lookA w, .agg (termCs t)] (bA (numberTermF w t)) noTok := by
  refine fnX mixed ⟨[0, 1, 3, 4, 8, 10, 11, 28, 44], [3], [(3, [3]), (13, [3]), (17, [3]), (21, [3])], [], []⟩ Tryz.func160 rfl rfl rfl (by kernel_rfl) rfl ?_
  simp [termCs, lookA]
  repeat' first
    | (refine callG_of (fun _ => mover_h w) (by simp) (by simp) ?_; simp)
    | (refine .inl (callG_of (fun _ => mover_h w) (by simp) (by simp) ?_); simp)
    | (refine callG_of (fun _ => place_h w _) (by simp) (by simp) ?_; simp)
    | (refine .inl (callG_of (fun _ => place_h w _) (by simp) (by simp) ?_); simp)
    | refine And.intro ?_ ?_
    | intro _
  all_goals grind [numberTermF]
end X
def pairF (w : LookD) (l : LitD) : Bool :=
  if l.other.side ≠ 1 then false
  else if textTermF w l.term then l.rel == 1 && textTermF w l.other
  else if !numberTermF w l.term || l.other.kind != 4 || !numberTermF w l.other then false
  else l.rel == 1 || l.rel == 3 || l.rel == 4 || l.rel == 5 || l.rel == 6
namespace X
set_option maxHeartbeats 1000000 in
theorem pair_h (w : LookD) (l : LitD) : Has Tryz.prog 163 [lookA w, .agg (litCs l)] (bA (pairF w l)) noTok := by
  refine fnX mixed ⟨[0, 1, 3, 4, 8, 12, 39, 41, 42], [3], [], [], []⟩ Tryz.func163 rfl rfl rfl (by kernel_rfl) rfl ?_
  simp [litCs, strsA, intsA, lookA]
  repeat' first
    | refine And.intro ?_ ?_
    | intro _
    | (refine callP_of (textTerm_h w l.term) (by simp) (by simp) ?_; simp)
    | (refine .inl (callG_of (fun _ => textTerm_h w l.other) (by simp) (by simp) ?_); simp)
    | (refine callP_of (numberTerm_h w l.term) (by simp) (by simp) ?_; simp)
    | (refine .inl (callG_of (fun _ => numberTerm_h w l.other) (by simp) (by simp) ?_); simp)
  all_goals grind [pairF]
end X
def keysF (w : LookD) (l : LitD) : Bool :=
  if l.of_ = 1 then plainTextF l.term || textTermF w l.term
  else if l.of_ = moverF w then plainTextF l.term || (l.term.side == 1 && textTermF w l.term)
  else false
namespace X
set_option maxHeartbeats 1000000 in
theorem keys_h (w : LookD) (l : LitD) : Has Tryz.prog 164 [lookA w, .agg (litCs l)] (bA (keysF w l)) noTok := by
  refine fnX mixed ⟨[0, 1, 3, 4, 6, 7, 18], [3], [], [], []⟩ Tryz.func164 rfl rfl rfl (by kernel_rfl) rfl ?_
  simp [litCs, strsA, intsA, lookA]
  repeat' first
    | refine And.intro ?_ ?_
    | intro _
    | (refine callP_of (plainText_h l.term) (by simp) (by simp) ?_; simp)
    | (refine .inl (callG_of (fun _ => textTerm_h w l.term) (by simp) (by simp) ?_); simp)
    | (refine callP_of (mover_h w) (by simp) (by simp) ?_; simp)
  all_goals grind [keysF]
end X
def sameF (a b : LitD) : Bool := a.kind == b.kind && eqT a.term b.term && a.rel == b.rel && a.num == b.num && (a.texts.length == 0 && a.nums.length == 0) && eqT a.other b.other && a.of_ == b.of_ && a.key.toList == b.key.toList && a.sel == b.sel
namespace X
set_option maxHeartbeats 1000000 in
theorem same_h (a b : LitD) (ha : a.fits) : Has Tryz.prog 156 [.agg (litCs a), .agg (litCs b)] (bA (sameF a b)) noTok := by
  refine fnX mixed ⟨[0, 1, 2, 3, 4], [2, 3], [], [], []⟩ Tryz.func156 rfl rfl rfl (by kernel_rfl) rfl ?_
  have h1 : IntKind.i64.wrap ((a.texts.length : Int) + a.nums.length) = (a.texts.length : Int) + a.nums.length := wrap64 (by have := ha.1; have := ha.2; omega) (by have := ha.1; have := ha.2; omega)
  have h2 : decide ((a.texts.length : Int) + a.nums.length = 0) = (a.texts.length == 0 && a.nums.length == 0) := by
    cases a.texts <;> cases a.nums <;> simp <;> omega
  simp [litCs, strsA, intsA, h1]
  simp only [sameF, eqT, h2]
  generalize a.key.toList = K1
  generalize b.key.toList = K2
  generalize a.term.key.toList = K3
  generalize b.term.key.toList = K4
  generalize a.other.key.toList = K5
  generalize b.other.key.toList = K6
  grind
end X
def isZeroF (l : LitD) : Bool := l.kind == 0 && sameF l .zero
namespace X
theorem isZero_h (l : LitD) (hl : l.fits) : Has Tryz.prog 98 [.agg (litCs l)] (bA (isZeroF l)) noTok := by
  refine fnX mixed ⟨[0, 1, 2], [1], [], [], []⟩ Tryz.func98 rfl rfl rfl (by kernel_rfl) rfl ?_
  simp [litCs, strsA, intsA]
  refine .inl (callG_of (fun _ => same_h l .zero hl) (by simp) (by simp) ?_)
  simp [isZeroF] <;> rfl
end X
end Go.Proofs.YtldnkeackphilaaGreatDoor
namespace Go.Proofs.YtldnkeackphilaaGreatDoor
open Go.RowKit

set_option maxRecDepth 8000

def nTextAt (l : List ByteArray) (i : Nat) : Bool := decide ((l.getD i noText).size ≤ 127) && !(decide (0 < i) && !(Op.bytesLess (l.getD (i - 1) noText).toList (l.getD i noText).toList))
def nTextsF (l : List ByteArray) : Bool := (List.range l.length).all (nTextAt l)
namespace X
theorem nTexts_h (l : List ByteArray) (hl : l.length ≤ 35184372088064) : Has Tryz.prog 158 [strsA l, .imm (.func (.func 159) #[] #[])] (bA (nTextsF l)) noTok := by
  refine fnX mixed ⟨[0, 1, 4, 5, 6, 7, 8, 9, 10, 30], [], [], [], []⟩ Tryz.func158 rfl rfl rfl (by kernel_rfl) rfl ?_
  simp [strsA]
  refine wF_loop [] [] [0, 1, 4, 7, 8, 9] (fun i : Nat => St.asc [(0, .sl (l.map fun s => [sA s])), (1, .imm (.func (.func 159) #[] #[])), (4, bA false), (7, .sl (l.map fun s => [sA s])), (8, iA l.length), (9, iA i)] [] [] false) (fun i => i ≤ l.length ∧ Upto (nTextAt l) i) (fun i => l.length - i) 0 _ (by simp) (by simp) (by simp [Upto.zero]) ?_
  rintro i ⟨hi, hok⟩
  by_cases h : i < l.length
  · have hx : l[i]? = some l[i] := List.getElem?_eq_getElem h
    obtain ⟨y, hy⟩ := ex_at (l := l) (i := i - 1) (by omega)
    generalize l[i] = x at *
    have hu : ((i : Int) - 1).toNat = i - 1 := by omega
    have ht : nTextAt l i = (decide (x.size ≤ 127) && !(decide (0 < i) && !(Op.bytesLess y.toList x.toList))) := by simp [nTextAt, hy, hx]
    simp [hx, hy, h, wrapN (Nat.le_trans hi hl), wrapP (Nat.le_trans hi hl), hu, -getElem?_pos]
    refine callP_of (fitsText_h x) (by simp) (by simp) ?_
    simp [hx, hy, h, wrapN (Nat.le_trans hi hl), wrapP (Nat.le_trans hi hl), hu, -getElem?_pos]
    and_intros
    · omega
    · intro hc
      exact all_false h (by rw [ht]; grind)
    · intro h1 h2
      exact ⟨i + 1, by simp, ⟨by omega, hok.next (by rw [ht]; grind)⟩, by omega⟩
  · have : i = l.length := by omega
    subst this
    simp
    exact hok
end X
def nNumAt (l : List Int) (i : Nat) : Bool := fitsNumF (l.getD i 0) && !(decide (0 < i) && decide (l.getD (i - 1) 0 ≥ l.getD i 0))
def nNumsF (l : List Int) : Bool := (List.range l.length).all (nNumAt l)
namespace X
theorem nNums_h (l : List Int) (hl : l.length ≤ 35184372088064) : Has Tryz.prog 161 [intsA l, .imm (.func (.func 162) #[] #[])] (bA (nNumsF l)) noTok := by
  refine fnX mixed ⟨[0, 1, 4, 5, 6, 7, 8, 9, 10, 30], [], [], [], []⟩ Tryz.func161 rfl rfl rfl (by kernel_rfl) rfl ?_
  simp [intsA]
  refine wF_loop [] [] [0, 1, 4, 7, 8, 9] (fun i : Nat => St.asc [(0, .sl (l.map fun s => [iA s])), (1, .imm (.func (.func 162) #[] #[])), (4, bA false), (7, .sl (l.map fun s => [iA s])), (8, iA l.length), (9, iA i)] [] [] false) (fun i => i ≤ l.length ∧ Upto (nNumAt l) i) (fun i => l.length - i) 0 _ (by simp) (by simp) (by simp [Upto.zero]) ?_
  rintro i ⟨hi, hok⟩
  by_cases h : i < l.length
  · have hx : l[i]? = some l[i] := List.getElem?_eq_getElem h
    obtain ⟨y, hy⟩ := ex_at (l := l) (i := i - 1) (by omega)
    generalize l[i] = x at *
    have hu : ((i : Int) - 1).toNat = i - 1 := by omega
    have ht : nNumAt l i = (fitsNumF x && !(decide (0 < i) && decide (y ≥ x))) := by simp [nNumAt, hy, hx]
    simp [hx, hy, h, wrapN (Nat.le_trans hi hl), wrapP (Nat.le_trans hi hl), hu, -getElem?_pos]
    refine callP_of (fitsNum_h x) (by simp) (by simp) ?_
    simp [hx, hy, h, wrapN (Nat.le_trans hi hl), wrapP (Nat.le_trans hi hl), hu, -getElem?_pos]
    and_intros
    · omega
    · intro hc
      exact all_false h (by rw [ht]; grind)
    · intro h1 h2
      exact ⟨i + 1, by simp, ⟨by omega, hok.next (by rw [ht]; grind)⟩, by omega⟩
  · have : i = l.length := by omega
    subst this
    simp
    exact hok
end X
def nLitF (w : LookD) (l : LitD) : Bool :=
  if l.kind = 1 then
    if sameF { l with texts := [], nums := [] } { LitD.zero with kind := 1, term := l.term } = false then false
    else if textTermF w l.term then l.nums.length == 0 && nTextsF l.texts
    else numberTermF w l.term && l.texts.length == 0 && nNumsF l.nums
  else if l.kind = 2 then
    ((l.rel == 4 && decide (l.num ≥ -1000000000000000000) && decide (l.num ≤ 999999999999999999)) || (l.rel == 6 && decide (l.num ≥ -999999999999999999) && decide (l.num ≤ 1000000000000000000))) && numberTermF w l.term && sameF l { LitD.zero with kind := 2, term := l.term, rel := l.rel, num := l.num }
  else if l.kind = 3 then pairF w l && sameF l { LitD.zero with kind := 3, term := l.term, rel := l.rel, other := l.other }
  else if l.kind = 4 then keysF w l && sameF l { LitD.zero with kind := 4, term := l.term, of_ := l.of_ }
  else if l.kind = 5 then w.node && (plainTextF l.term || (l.term.side == 1 && textTermF w l.term)) && sameF l { LitD.zero with kind := 5, term := l.term }
  else if l.kind = 6 then w.node && decide (l.key.size ≤ 127) && sameF l { LitD.zero with kind := 6, key := l.key }
  else if l.kind = 7 then w.node && decide (l.key.size ≤ 127) && placeF w l.sel && sameF l { LitD.zero with kind := 7, key := l.key, sel := l.sel }
  else false
namespace X
set_option maxHeartbeats 2000000 in
theorem nLit_h (w : LookD) (l : LitD) (hl : l.fits) : Has Tryz.prog 99 [lookA w, .agg (litCs l)] (bA (nLitF w l)) noTok := by
  refine fnX mixed ⟨[0, 1, 3, 4, 5, 6, 7, 8, 10, 11, 21, 25, 50, 99, 115, 129, 160, 178], [3, 5], [], [], []⟩ Tryz.func99 rfl rfl rfl (by kernel_rfl) rfl ?_
  simp [litCs, strsA, intsA, lookA]
  repeat' first
    | refine And.intro ?_ ?_
    | intro _
    | (refine callP_of (same_h { l with texts := [], nums := [] } { LitD.zero with kind := 1, term := l.term } ⟨by simp, by simp⟩) (by simp) (by simp) ?_; simp)
    | (refine callP_of (textTerm_h w l.term) (by simp) (by simp) ?_; simp)
    | (refine .inl (callG_of (fun _ => textTerm_h w l.term) (by simp) (by simp) ?_); simp)
    | (refine callP_of (numberTerm_h w l.term) (by simp) (by simp) ?_; simp)
    | (refine .inl (callG_of (fun _ => numberTerm_h w l.term) (by simp) (by simp) ?_); simp)
    | (refine .inl (callG_of (fun _ => nTexts_h l.texts hl.1) (by simp) (by simp) ?_); simp)
    | (refine .inl (callG_of (fun _ => nNums_h l.nums hl.2) (by simp) (by simp) ?_); simp)
    | (refine callP_of (pair_h w l) (by simp) (by simp) ?_; simp)
    | (refine callP_of (keys_h w l) (by simp) (by simp) ?_; simp)
    | (refine callP_of (plainText_h l.term) (by simp) (by simp) ?_; simp)
    | (refine .inl (callG_of (fun _ => fitsText_h l.key) (by simp) (by simp) ?_); simp)
    | (refine .inl (callG_of (fun _ => place_h w l.sel) (by simp) (by simp) ?_); simp)
    | (refine .inl (callG_of (fun _ => same_h l { LitD.zero with kind := 2, term := l.term, rel := l.rel, num := l.num } hl) (by simp) (by simp) ?_); simp)
    | (refine .inl (callG_of (fun _ => same_h l { LitD.zero with kind := 3, term := l.term, rel := l.rel, other := l.other } hl) (by simp) (by simp) ?_); simp)
    | (refine .inl (callG_of (fun _ => same_h l { LitD.zero with kind := 4, term := l.term, of_ := l.of_ } hl) (by simp) (by simp) ?_); simp)
    | (refine .inl (callG_of (fun _ => same_h l { LitD.zero with kind := 5, term := l.term } hl) (by simp) (by simp) ?_); simp)
    | (refine .inl (callG_of (fun _ => same_h l { LitD.zero with kind := 6, key := l.key } hl) (by simp) (by simp) ?_); simp)
    | (refine .inl (callG_of (fun _ => same_h l { LitD.zero with kind := 7, key := l.key, sel := l.sel } hl) (by simp) (by simp) ?_); simp)
  all_goals grind [nLitF]
end X
end Go.Proofs.YtldnkeackphilaaGreatDoor
namespace Go.Proofs.YtldnkeackphilaaGreatDoor
open Go.RowKit

set_option maxRecDepth 8000

def nPartF (w : LookD) (p : PartD) : Bool :=
  if p.kind = 1 ∨ p.kind = 2 then p.kids.length == 0 && !p.neg && isZeroF p.lit
  else if p.kind = 3 ∨ p.kind = 4 then decide (p.kids.length ≥ 2) && !p.neg && isZeroF p.lit
  else if p.kind = 5 then p.kids.length == 0 && nLitF w p.lit
  else false
namespace X
set_option maxHeartbeats 1000000 in
theorem nPart_h (w : LookD) (p : PartD) (hl : p.lit.fits) : Has Tryz.prog 58 [lookA w, .agg (partCs p)] (bA (nPartF w p)) noTok := by
  refine fnX mixed ⟨[0, 1, 3, 4, 6, 7, 24, 41], [3], [], [], []⟩ Tryz.func58 rfl rfl rfl (by kernel_rfl) rfl ?_
  simp [partCs, strsA, intsA, lookA]
  repeat' first
    | refine And.intro ?_ ?_
    | intro _
    | (refine .inl (callG_of (fun _ => isZero_h p.lit hl) (by simp) (by simp) ?_); simp)
    | (refine .inl (callG_of (fun _ => nLit_h w p.lit hl) (by simp) (by simp) ?_); simp)
  all_goals grind [nPartF]
end X
end Go.Proofs.YtldnkeackphilaaGreatDoor
namespace Go.Proofs.YtldnkeackphilaaGreatDoor
open Go.RowKit

theorem less_total : ∀ (a b : List UInt8), (Op.bytesLess a b || a == b) = !(Op.bytesLess b a)
  | [], [] => rfl
  | [], _ :: _ => rfl
  | _ :: _, [] => rfl
  | x :: a, y :: b => by
    have ih := less_total a b
    simp only [Op.bytesLess]
    have hc : ((x :: a) == (y :: b)) = (x == y && a == b) := rfl
    rw [hc]
    rcases Nat.lt_trichotomy x.toNat y.toNat with h | h | h
    · have h1 : x < y := UInt8.lt_iff_toNat_lt.2 h
      have h2 : ¬ y < x := fun h' => by have := UInt8.lt_iff_toNat_lt.1 h'; omega
      have h3 : (y == x) = false := by
        rw [Bool.eq_false_iff]
        intro e
        have := eq_of_beq e
        subst this
        omega
      simp [h1, h2, h3]
    · have : x = y := UInt8.toNat_inj.1 h
      subst this
      have h1 : ¬ x < x := fun h' => by have := UInt8.lt_iff_toNat_lt.1 h'; omega
      simp [h1, ih]
    · have h1 : y < x := UInt8.lt_iff_toNat_lt.2 h
      have h2 : ¬ x < y := fun h' => by have := UInt8.lt_iff_toNat_lt.1 h'; omega
      have h3 : (x == y) = false := by
        rw [Bool.eq_false_iff]
        intro e
        have := eq_of_beq e
        subst this
        omega
      simp [h1, h2, h3]
theorem texts_eq (l : List ByteArray) : nTextsF l = risingTextsF l := by
  unfold nTextsF risingTextsF
  congr 1
  funext i
  simp only [nTextAt, textAt, leqS, less_total, Bool.not_not]
  generalize (l.getD i noText).size = n
  generalize Op.bytesLess (l.getD (i - 1) noText).toList (l.getD i noText).toList = B
  grind
theorem nums_eq (l : List Int) : nNumsF l = risingNumsF l := by
  unfold nNumsF risingNumsF
  congr 1
  funext i
  simp only [nNumAt, numAt, fitsNumF]
  grind
theorem size_nil {s : ByteArray} (h : s.toList = []) : s.size = 0 := by
  rw [ByteArray.toList_eq] at h
  have : s.data.toList.length = 0 := by rw [h]; rfl
  simpa using this
theorem textTerm_eq (t : TermD) (pods : Bool) (sels : Int) : textTermF ⟨sels, !pods⟩ t = (termF t pods sels && textF t) := by
  have hk := size_nil (s := t.key)
  simp only [textTermF, termF, textF, moverF, sideF]
  generalize t.key.toList = K at *
  generalize t.key.size = n at *
  cases pods <;> grind
theorem numberTerm_eq (t : TermD) (pods : Bool) (sels : Int) : numberTermF ⟨sels, !pods⟩ t = (termF t pods sels && numberF t) := by
  simp only [numberTermF, termF, numberF, moverF, sideF, placeF]
  generalize t.key.toList = K at *
  generalize t.key.size = n at *
  cases pods <;> grind
theorem plainText_eq (t : TermD) (pods : Bool) (sels : Int) : plainTextF t = (termF t pods sels && t.kind == 1) := by
  simp only [plainTextF, termF]
  generalize t.key.toList = K at *
  generalize t.key.size = n at *
  cases pods <;> grind
theorem eqT_self (t : TermD) : eqT t t = true := by simp [eqT]
theorem len0 {α : Type} (l : List α) : decide (l.length > 0) = !(l.length == 0) := by cases l <;> simp
theorem lit1_eq (l : LitD) (pods : Bool) (sels : Int) (h : l.kind = 1) : nLitF ⟨sels, !pods⟩ l = litF l pods sels := by
  have hk := size_nil (s := l.key)
  simp only [nLitF, litF, h, sameF, restF, inF, textTerm_eq, numberTerm_eq, texts_eq, nums_eq, eqT_self, LitD.zero, noText_l, List.length_nil, len0]
  generalize eqT l.other .zero = E
  generalize l.key.toList = K at *
  generalize l.key.size = n at *
  generalize termF l.term pods sels = T
  generalize textF l.term = X
  generalize numberF l.term = Y
  grind
theorem lit2_eq (l : LitD) (pods : Bool) (sels : Int) (h : l.kind = 2) : nLitF ⟨sels, !pods⟩ l = litF l pods sels := by
  have hk := size_nil (s := l.key)
  simp only [nLitF, litF, h, sameF, restF, relF, numberTerm_eq, eqT_self, LitD.zero, noText_l, List.length_nil, len0]
  generalize eqT l.other .zero = E
  generalize l.key.toList = K at *
  generalize l.key.size = n at *
  generalize termF l.term pods sels = T
  generalize numberF l.term = Y
  generalize (l.texts.length == 0) = A
  generalize (l.nums.length == 0) = B
  grind
theorem lit3_eq (l : LitD) (pods : Bool) (sels : Int) (h : l.kind = 3) : nLitF ⟨sels, !pods⟩ l = litF l pods sels := by
  have hk := size_nil (s := l.key)
  have hn : numberF l.other = true ∧ termF l.other pods sels = true → True := fun _ => trivial
  simp only [nLitF, litF, h, sameF, restF, podF, pairF, textTerm_eq, numberTerm_eq, eqT_self, LitD.zero, noText_l, List.length_nil, len0]
  have hnum : (l.other.kind == 4) = true → numberF l.other = true := by
    intro h; simp only [numberF]; grind
  generalize numberF l.other = Y2 at *
  generalize l.key.toList = K at *
  generalize l.key.size = n at *
  generalize termF l.term pods sels = T
  generalize termF l.other pods sels = T2
  generalize textF l.term = X
  generalize textF l.other = X2
  generalize numberF l.term = Y
  generalize (l.texts.length == 0) = A
  generalize (l.nums.length == 0) = B
  cases T <;> cases T2 <;> cases X <;> cases A <;> cases B <;> simp <;> grind
theorem lit4_eq (l : LitD) (pods : Bool) (sels : Int) (h : l.kind = 4) : nLitF ⟨sels, !pods⟩ l = litF l pods sels := by
  have hk := size_nil (s := l.key)
  simp only [nLitF, litF, h, sameF, restF, keysF, textTerm_eq, plainText_eq l.term pods sels, eqT_self, LitD.zero, noText_l, List.length_nil, len0, moverF, sideF, ofPodF]
  generalize eqT l.other .zero = E
  generalize l.key.toList = K at *
  generalize l.key.size = n at *
  generalize termF l.term pods sels = T
  generalize textF l.term = X
  generalize (l.texts.length == 0) = A
  generalize (l.nums.length == 0) = B
  cases pods <;> cases T <;> cases X <;> cases A <;> cases B <;> cases E <;> simp <;> grind
theorem lit5_eq (l : LitD) (pods : Bool) (sels : Int) (h : l.kind = 5) : nLitF ⟨sels, !pods⟩ l = litF l pods sels := by
  have hk := size_nil (s := l.key)
  simp only [nLitF, litF, h, sameF, restF, textTerm_eq, plainText_eq l.term pods sels, eqT_self, LitD.zero, noText_l, List.length_nil, len0, ofPodF]
  generalize eqT l.other .zero = E
  generalize l.key.toList = K at *
  generalize l.key.size = n at *
  generalize termF l.term pods sels = T
  generalize textF l.term = X
  generalize (l.texts.length == 0) = A
  generalize (l.nums.length == 0) = B
  cases pods <;> cases T <;> cases X <;> cases A <;> cases B <;> cases E <;> simp <;> grind
theorem lit67_eq (l : LitD) (pods : Bool) (sels : Int) (h : l.kind = 6 ∨ l.kind = 7) : nLitF ⟨sels, !pods⟩ l = litF l pods sels := by
  rcases h with h | h
  all_goals
    simp only [nLitF, litF, h, sameF, restF, eqT_self, LitD.zero, noText_l, List.length_nil, len0, placeF]
    generalize eqT l.other .zero = E
    generalize eqT l.term .zero = E2
    generalize l.key.size = n at *
    generalize (l.texts.length == 0) = A
    generalize (l.nums.length == 0) = B
    cases pods <;> cases A <;> cases B <;> cases E <;> cases E2 <;> simp <;> grind
theorem lit_eq (l : LitD) (pods : Bool) (sels : Int) : nLitF ⟨sels, !pods⟩ l = litF l pods sels := by
  by_cases h1 : l.kind = 1
  · exact lit1_eq l pods sels h1
  by_cases h2 : l.kind = 2
  · exact lit2_eq l pods sels h2
  by_cases h3 : l.kind = 3
  · exact lit3_eq l pods sels h3
  by_cases h4 : l.kind = 4
  · exact lit4_eq l pods sels h4
  by_cases h5 : l.kind = 5
  · exact lit5_eq l pods sels h5
  by_cases h6 : l.kind = 6 ∨ l.kind = 7
  · exact lit67_eq l pods sels h6
  have h6' : ¬ l.kind = 6 := fun h => h6 (.inl h)
  have h7' : ¬ l.kind = 7 := fun h => h6 (.inr h)
  simp [nLitF, litF, h1, h2, h3, h4, h5, h6', h7']
end Go.Proofs.YtldnkeackphilaaGreatDoor
namespace Go.Proofs.YtldnkeackphilaaGreatDoor
open Go.RowKit

theorem compact_rise {α : Type} [Inhabited α] [DecidableEq α] (le : α → α → Prop) (anti : ∀ a b, le a b → le b a → a = b) (rfl_ : ∀ a, le a a) (zs : List α) (hs : zs.Pairwise le) : (Lib.compact zs).Pairwise fun a b => le a b ∧ a ≠ b := by
  unfold Lib.compact Lib.compactUpTo
  rw [List.pairwise_map]
  refine List.Pairwise.imp_of_mem ?_ (List.pairwise_lt_range.filter _)
  intro i j hi hj hij
  have hj1 : j < zs.length := List.mem_range.1 (List.mem_filter.1 hj).1
  have hjk : Lib.keeps zs.toArray j = true := (List.mem_filter.1 hj).2
  have hk : zs[j] ≠ zs[j - 1] := by
    have := of_decide_eq_true hjk
    rcases this with h | h
    · omega
    · simpa [hj1, show j - 1 < zs.length by omega] using h
  have e : ∀ k (h : k < zs.length), (zs.toArray)[k]! = zs[k] := fun k h => by simp [h]
  rw [e i (by omega), e j hj1]
  have hp := List.pairwise_iff_getElem.1 hs
  have h1 : le zs[i] zs[j] := hp i j (by omega) hj1 hij
  refine ⟨h1, fun he => ?_⟩
  have h2 : le zs[j - 1] zs[j] := hp (j - 1) j (by omega) hj1 (by omega)
  have h3 : le zs[i] zs[j - 1] := by
    by_cases h : i = j - 1
    · subst h; exact rfl_ _
    · exact hp i (j - 1) (by omega) (by omega) (by omega)
  rw [he] at h3
  exact hk (anti _ _ h3 h2)
theorem mem_compact {α : Type} [Inhabited α] [DecidableEq α] {zs : List α} {x : α} (h : x ∈ Lib.compact zs) : x ∈ zs := by
  unfold Lib.compact Lib.compactUpTo at h
  obtain ⟨i, hi, rfl⟩ := List.mem_map.1 h
  have hi' : i < zs.length := List.mem_range.1 (List.mem_filter.1 hi).1
  simp [getElem!_pos, hi']
def okN (n : Int) : Prop := -999999999999999999 ≤ n ∧ n ≤ 999999999999999999
theorem rising_nums {l : List Int} (h : l.Pairwise fun a b => a ≤ b ∧ a ≠ b) (hb : ∀ n ∈ l, okN n) : risingNumsF l = true := by
  refine List.all_eq_true.2 fun i hi => ?_
  have hi := List.mem_range.1 hi
  have h1 := hb l[i] (List.getElem_mem hi)
  have e : l.getD i 0 = l[i] := by simp [hi]
  unfold numAt
  rw [e]
  unfold okN at h1
  have e1 : (decide (l[i] < -999999999999999999) || decide (l[i] > 999999999999999999)) = false := by simp; omega
  rw [e1]
  by_cases h0 : 0 < i
  · have e2 : l.getD (i - 1) 0 = l[i - 1] := by simp [show i - 1 < l.length by omega]
    have := List.pairwise_iff_getElem.1 h (i - 1) i (by omega) hi (by omega)
    rw [e2]
    have e3 : decide (l[i] ≤ l[i - 1]) = false := by simp; omega
    rw [e3]
    simp
  · simp [h0]
theorem rising_set (l : List Int) (hb : ∀ n ∈ l, okN n) : risingNumsF (Lib.compact (sortedI l)) = true := by
  refine rising_nums (compact_rise (fun a b : Int => a ≤ b) (fun a b h1 h2 => by omega) (fun a => by omega) _ ?_) fun n hn => hb n (by simpa [sortedI] using mem_compact hn)
  refine (List.pairwise_mergeSort (le := fun x y : Int => decide (x ≤ y)) (fun a b c => by simp; omega) (fun a b => by simp; omega) l).imp fun h => by simpa using h
theorem rising_texts {l : List ByteArray} (h : l.Pairwise fun a b => leqS b a = false) (hb : ∀ s ∈ l, s.size ≤ 127) : risingTextsF l = true := by
  refine List.all_eq_true.2 fun i hi => ?_
  have hi := List.mem_range.1 hi
  have h1 := hb l[i] (List.getElem_mem hi)
  have e : l.getD i noText = l[i] := by simp [hi]
  unfold textAt
  rw [e]
  have e1 : decide (l[i].size > 127) = false := by simp; omega
  rw [e1]
  by_cases h0 : 0 < i
  · have e2 : l.getD (i - 1) noText = l[i - 1] := by simp [show i - 1 < l.length by omega]
    have := List.pairwise_iff_getElem.1 h (i - 1) i (by omega) hi (by omega)
    rw [e2, this]
    simp
  · simp [h0]
theorem less_lt : ∀ (x y : List UInt8), Op.bytesLess x y = decide (x < y)
  | [], [] => by simp [Op.bytesLess]
  | _ :: _, [] => by simp [Op.bytesLess]
  | [], _ :: _ => by simp [Op.bytesLess]
  | a :: x, b :: y => by
    rw [Op.bytesLess, less_lt x y, Bool.eq_iff_iff]
    simp [List.cons_lt_cons_iff]
theorem leq_of {a b : List UInt8} (h : a ≤ b) (hn : a ≠ b) : leqS ⟨b.toArray⟩ ⟨a.toArray⟩ = false := by
  unfold leqS
  rw [Lib.toList_data, Lib.toList_data, less_lt]
  have h1 : ¬ b < a := fun h2 => absurd h (by simpa using h2)
  simp [h1, Ne.symm hn]
theorem rising_textset (l : List ByteArray) (hb : ∀ s ∈ l, s.size ≤ 127) : risingTextsF (compactS (sortedS l)) = true := by
  have e : bytesL (sortedS l) = (bytesL l).mergeSort fun x y => decide (x ≤ y) := by
    unfold sortedS bytesL textsL
    rw [List.map_map]
    exact (List.map_congr_left fun x _ => rfl).trans (List.map_id _)
  unfold compactS
  rw [e]
  refine rising_texts ?_ fun s hs => ?_
  · unfold textsL
    rw [List.pairwise_map]
    refine (compact_rise (fun a b : List UInt8 => a ≤ b) (fun a b h1 h2 => Std.le_antisymm h1 h2) (fun a => Std.le_refl a) _ ?_).imp fun h => leq_of h.1 h.2
    refine (List.pairwise_mergeSort (le := fun x y : List UInt8 => decide (x ≤ y)) (fun a b c => by simpa using fun h1 h2 => Std.le_trans h1 h2) (fun a b => by simpa using Std.le_total (a := a) (b := b)) _).imp fun h => by simpa using h
  · unfold textsL at hs
    obtain ⟨x, hx, rfl⟩ := List.mem_map.1 hs
    have := mem_compact hx
    rw [List.mem_mergeSort] at this
    obtain ⟨y, hy, rfl⟩ := List.mem_map.1 this
    exact hb y hy
end Go.Proofs.YtldnkeackphilaaGreatDoor
