/- The plan of a negation, in plain Lean: it is checked as its tree is. -/
import Derived.Test.YtldnkeackphilaaGreatDoorNd14
import Derived.Test.YtldnkeackphilaaGreatDoorNd18
import Derived.Test.YtldnkeackphilaaGreatDoorNd19
import Derived.Test.YtldnkeackphilaaGreatDoorNd10
set_option linter.unusedSimpArgs false
set_option linter.unusedVariables false
set_option linter.unusedSectionVars false
namespace Go.Proofs.YtldnkeackphilaaGreatDoor
open X

def notP (n : Nat) : Part := ⟨3, noText, 0, [(n : Int) - 1]⟩
section
variable {ps : List Part} (hw : WF ps) (q : Part)
include hw
theorem kid_lt {i : Nat} {p : Part} (hp : ps[i]? = some p) {k : Int} (hk : k ∈ p.kids) : k.toNat < ps.length := by
  have h1 := hw.kids i p hp k hk
  have h2 := (List.getElem?_eq_some_iff.1 hp).1
  omega
theorem scopeKids_app (b : Int) (A B : List Int) : ∀ (kids : List Int) (A : List Int), (∀ k ∈ kids, k.toNat < A.length) → scopeKids b kids (A ++ B) = scopeKids b kids A ++ B
  | [], _, _ => rfl
  | k :: r, A, h => by
    have h1 := h k (by simp)
    have : scopeKids b (k :: r) (A ++ B) = scopeKids b r ((A ++ B).set k.toNat b) := rfl
    rw [this, List.set_append_left _ _ h1, scopeKids_app b A B r (A.set k.toNat b) (fun j hj => by rw [List.length_set]; exact h j (by simp [hj]))]
    rfl
theorem scopeStep_app (s : Int) (A : List Int) (hA : A.length = ps.length) (i : Nat) (hi : i < ps.length) : scopeStep (ps ++ [q]) (A ++ [s]) i = scopeStep ps A i ++ [s] := by
  have hp : ps[i]? = some ps[i] := List.getElem?_eq_getElem hi
  unfold scopeStep
  rw [List.getElem?_append_left hi, hp]
  simp only
  have e : (A ++ [s]).getD i 0 = A.getD i 0 := by simp [List.getD_eq_getElem?_getD, List.getElem?_append_left (show i < A.length by omega)]
  rw [e, scopeKids_app hw _ A [s] _ _ fun k hk => by rw [hA]; exact kid_lt hw hp hk]
theorem scopeFold_app (s : Int) : ∀ (l : List Nat) (A : List Int), A.length = ps.length → (∀ i ∈ l, i < ps.length) → l.foldl (scopeStep (ps ++ [q])) (A ++ [s]) = l.foldl (scopeStep ps) A ++ [s]
  | [], _, _, _ => rfl
  | i :: r, A, hA, h => by
    rw [List.foldl_cons, List.foldl_cons, scopeStep_app hw q s A hA i (h i (by simp))]
    refine scopeFold_app s r _ ?_ fun j hj => h j (by simp [hj])
    unfold scopeStep
    rw [List.getElem?_eq_getElem (h i (by simp))]
    simp only
    rw [scopeKids_len, hA]
theorem scopes_snoc (scope : Int) (hq : selK q.kind = false) (hqk : q.kids = [(ps.length : Int) - 1]) : scopesF (ps ++ [q]) scope = scopesF ps scope ++ [scope] := by
  have hpos := hw.pos
  unfold scopesF
  rw [List.length_append, List.length_singleton, List.range_succ, List.reverse_append, List.reverse_singleton, List.singleton_append, List.foldl_cons]
  have e : scopeStep (ps ++ [q]) ((List.replicate (ps.length + 1) 0).set (ps.length + 1 - 1) scope) ps.length = (List.replicate ps.length 0).set (ps.length - 1) scope ++ [scope] := by
    unfold scopeStep
    have h1 : (ps ++ [q])[ps.length]? = some q := by simp
    rw [h1]
    simp only [hq, hqk]
    have h2 : (List.replicate (ps.length + 1) (0 : Int)).set (ps.length + 1 - 1) scope = List.replicate ps.length 0 ++ [scope] := by
      rw [List.replicate_succ', Nat.add_sub_cancel, List.set_append_right _ _ (by simp)]
      simp
    rw [h2]
    have h3 : (List.replicate ps.length (0 : Int) ++ [scope]).getD ps.length 0 = scope := by simp [List.getD_eq_getElem?_getD]
    rw [h3]
    simp only [scopeKids, List.foldl_cons, List.foldl_nil, Bool.false_eq_true, if_false]
    have h4 : ((ps.length : Int) - 1).toNat = ps.length - 1 := by omega
    rw [h4, List.set_append_left _ _ (by simp; omega)]
  rw [e]
  exact scopeFold_app hw q scope _ _ (by simp) fun i hi => by simpa using hi
theorem typeF_snoc {sc : List Int} {s : Int} (hsc : sc.length = ps.length) (ts : List (Int × Int)) {i : Nat} {p : Part} (hp : ps[i]? = some p) : typeF (ps ++ [q]) (sc ++ [s]) ts i p = typeF ps sc ts i p := by
  have hi := (List.getElem?_eq_some_iff.1 hp).1
  have e1 : (sc ++ [s]).getD ((i : Int)).toNat 0 = sc.getD ((i : Int)).toNat 0 := by simp [List.getD_eq_getElem?_getD, List.getElem?_append_left (show i < sc.length by omega)]
  have e2 : selectorF (sc ++ [s]) ts i p = selectorF sc ts i p := by unfold selectorF; rw [e1]
  have hlt : (p.kids.headD 0).toNat < ps.length := by
    cases hl : p.kids with
    | nil => have := hw.pos; simpa using this
    | cons a r => exact kid_lt hw hp (by simp [hl])
  have e3 : kindOf (ps ++ [q]) (p.kids.headD 0) = kindOf ps (p.kids.headD 0) := by unfold kindOf; rw [List.getElem?_append_left hlt]
  unfold typeF
  rw [e1, e2, e3]
theorem typesGo_snoc {sc : List Int} {s : Int} (hsc : sc.length = ps.length) : ∀ (l : List Part) (i : Nat) (ts0 ts : List (Int × Int)), ps.drop i = l → typesGo ps sc l i ts0 = .inr ts → typesGo (ps ++ [q]) (sc ++ [s]) (l ++ [q]) i ts0 = typesGo (ps ++ [q]) (sc ++ [s]) [q] (i + l.length) ts
  | [], i, ts0, ts, _, h => by
    simp only [typesGo, Sum.inr.injEq] at h
    subst h
    rfl
  | p :: r, i, ts0, ts, hd, h => by
    have hp : ps[i]? = some p := by
      have := congrArg (fun l : List Part => l[0]?) hd
      simpa using this
    have hd' : ps.drop (i + 1) = r := by
      have := congrArg List.tail hd
      simpa using this
    rw [typesGo] at h
    rw [List.cons_append, typesGo, typeF_snoc hw q hsc ts0 hp]
    split at h
    · cases h
    · next t ht =>
      rw [typesGo_snoc hsc r (i + 1) _ ts hd' h, List.length_cons, show i + 1 + r.length = i + (r.length + 1) from by omega]
end
theorem check_not {ps : List Part} {scope : Int} {ts : List (Int × Int)} (h : checkF ps scope = .inr ts) (hv : validF (ps ++ [notP ps.length]) = none) : ∃ ts', checkF (ps ++ [notP ps.length]) scope = .inr ts' := by
  have ht := typed_of h
  have hw := wf_of_shape (shape_of_valid ht.valid)
  have hpos := hw.pos
  have hsc := scopes_snoc hw (notP ps.length) scope (by simp [notP, selK]) rfl
  have hl : (scopesF ps scope).length = ps.length := by
    have : ∀ (l : List Nat) (A : List Int), (l.foldl (scopeStep ps) A).length = A.length := fun l => by
      induction l with
      | nil => intro A; rfl
      | cons i r ih =>
        intro A
        rw [List.foldl_cons, ih]
        unfold scopeStep
        split
        · rfl
        · exact scopeKids_len _ _ _
    unfold scopesF
    rw [this]
    simp
  have hgo : typesGo ps (scopesF ps scope) ps 0 [] = .inr ts := by
    unfold checkF at h
    split at h
    · cases h
    · rw [ht.valid] at h
      simp only at h
      split at h
      · cases h
      · next hg =>
        split at h
        · cases h
        · cases h; exact hg
  have h1 := typesGo_snoc hw (notP ps.length) (s := scope) hl ps 0 [] ts rfl hgo
  rw [← hsc, Nat.zero_add] at h1
  have hb : boolsF ts [(ps.length : Int) - 1] = none := by
    have e : ((ps.length : Int) - 1) = ((ps.length - 1 : Nat) : Int) := by omega
    rw [e]
    simp [boolsF, ht.last]
  have hty : typeF (ps ++ [notP ps.length]) (scopesF (ps ++ [notP ps.length]) scope) ts (ps.length : Nat) (notP ps.length) = .inr (1, joinedF ts [(ps.length : Int) - 1]) := by
    simp [typeF, notP, hb, orElse]
  rw [typesGo, hty] at h1
  simp only [typesGo] at h1
  have hlen := ht.len
  have hlast : sortAt (ts ++ [(1, joinedF ts [(ps.length : Int) - 1])]) (((ps ++ [notP ps.length]).length - 1 : Nat) : Int) = 1 := by
    have e : (ps ++ [notP ps.length]).length - 1 = ts.length := by simp [hlen]
    rw [e]
    simp [sortAt]
  refine ⟨ts ++ [(1, joinedF ts [(ps.length : Int) - 1])], ?_⟩
  unfold checkF
  rw [if_neg (by have := ht.sc; omega), hv]
  simp only [h1, hlast]
  rfl
theorem kids_lt {ps : List Part} (hw : WF ps) : ∀ k : Int, k.toNat < ps.length → ∀ j ∈ (partAt ps k).kids, j.toNat < ps.length := fun k h j hj => by
  have hp : ps[k.toNat]? = some ps[k.toNat] := List.getElem?_eq_getElem h
  have e : partAt ps k = ps[k.toNat] := by simp [partAt, List.getD_eq_getElem?_getD, hp]
  rw [e] at hj
  exact kid_lt hw hp hj
theorem cond_not {ps : List Part} (hw : WF ps) (f : Nat) (s : Int) (hs : s = 0 ∨ s = 1) : condF (ps ++ [notP ps.length]) (f + 1) (ps.length : Nat) s = dualT (condF ps f ((ps.length - 1 : Nat) : Int) s) := by
  have hpos := hw.pos
  have hp : (ps ++ [notP ps.length])[ps.length]? = some (notP ps.length) := by simp
  rw [condF, condStep, partAt_nat hp]
  have e : ((notP ps.length).kids.headD 0) = ((ps.length - 1 : Nat) : Int) := by simp [notP]; omega
  simp only [e]
  rw [if_neg (by simp [notP]), if_pos (show (notP ps.length).kind = 3 from rfl), cond_snoc (notP ps.length) (kids_lt hw) f _ _ (by simp; omega), dual_cond ps f _ s hs]
theorem plan_not {ps : List Part} (hw : WF ps) : planF (ps ++ [notP ps.length]) = (dualL (planF ps).1, (planF ps).2) := by
  have hpos := hw.pos
  have e : (ps ++ [notP ps.length]).length = ps.length + 1 := by simp
  unfold planF
  rw [e, Nat.add_sub_cancel, cond_not hw ps.length 0 (.inl rfl)]
  exact write_dual _ [] []
theorem dual_dualP (p : PartD) : dualP (dualP p) = p := by
  obtain ⟨k, n, l, ks⟩ := p
  have e : dualK (dualK k) = k := by
    unfold dualK
    by_cases h1 : k = 1
    · simp [h1]
    by_cases h2 : k = 2
    · simp [h2]
    by_cases h3 : k = 3
    · simp [h3]
    by_cases h4 : k = 4
    · simp [h4]
    · simp [h1, h2, h3, h4]
  have e5 : dualK k = 5 ↔ k = 5 := by
    rw [show (5 : Int) = dualK 5 from rfl, dualK_eq]
    rfl
  simp only [dualP, e, e5]
  by_cases h : k = 5 <;> simp [h]
theorem dual_dualL (l : List PartD) : dualL (dualL l) = l := by
  unfold dualL
  rw [List.map_map]
  exact (List.map_congr_left fun p _ => dual_dualP p).trans (List.map_id _)
theorem plan_twice {ps : List Part} (hw : WF ps) (hw' : WF (ps ++ [notP ps.length])) : planF (ps ++ [notP ps.length] ++ [notP (ps.length + 1)]) = planF ps := by
  have e : (ps ++ [notP ps.length]).length = ps.length + 1 := by simp
  have h := plan_not hw'
  rw [e, plan_not hw, dual_dualL] at h
  exact h
end Go.Proofs.YtldnkeackphilaaGreatDoor
namespace Go.Proofs.YtldnkeackphilaaGreatDoor.X
open Go.RowKit

set_option maxRecDepth 8000 in
set_option maxHeartbeats 1000000 in
theorem dual_h (l : List PartD) (hl : l.length ≤ 100000) (r : List PartD) (hr : Hid (r = dualL l)) : Has Tryz.prog 25 [partsA l] (partsA r) noTok := by
  refine fnX mixed ⟨[0, 2, 3, 4, 5, 9, 17, 18, 21, 24, 27, 30], [3, 5, 38, 39], [], [], []⟩ Tryz.func25 rfl rfl rfl (by kernel_rfl) (by simp [partsA]) ?_
  simp [partsA]
  refine wF_loop [.slot 3 3 63] [.slot 3 3] [0, 3, 4] (fun i : Nat => St.asc [(0, .sl (l.map partCs)), (3, .rw 3 0 i), (4, iA i)] [(3, .row 63 (((dualL l).map partCs).take i))] [(3, true)] false) (fun i => i ≤ l.length) (fun i => l.length - i) 0 _ (by simp) (by simp) (by simp) ?_
  intro i hi
  have hdl : (dualL l).length = l.length := by simp [dualL]
  by_cases h : i < l.length
  · have hx : l[i]? = some l[i] := List.getElem?_eq_getElem h
    have htk : ((dualL l).map partCs).take (i + 1) = ((dualL l).map partCs).take i ++ [partCs (dualP l[i])] := by
      rw [List.take_add_one, List.getElem?_map]
      have : (dualL l)[i]? = some (dualP l[i]) := by rw [dualL, List.getElem?_map, hx]; rfl
      rw [this]
      rfl
    generalize l[i] = x at *
    obtain ⟨k, neg, lit, kids⟩ := x
    have w1 : IntKind.i64.wrap ((i : Int) + 1) = (i : Int) + 1 := wrap64 (by omega) (by omega)
    have hmin : min i l.length = i := by omega
    have hk : k = 1 ∨ k = 2 ∨ k = 3 ∨ k = 4 ∨ k = 5 ∨ (k ≠ 1 ∧ k ≠ 2 ∧ k ≠ 3 ∧ k ≠ 4 ∧ k ≠ 5) := by omega
    rcases hk with rfl | rfl | rfl | rfl | rfl | ⟨k1, k2, k3, k4, k5⟩
    all_goals
      simp [hx, h, w1, partCs, strsA, intsA, hdl, hmin, -getElem?_pos, *]
      refine ⟨⟨by omega, by omega⟩, i + 1, ?_, by omega, by omega⟩
      rw [htk]
      simp [dualP, dualK, partCs, strsA, intsA, List.take_take, *]
  · obtain rfl : i = l.length := by omega
    have hll : List.take l.length (List.map partCs (dualL l)) = List.map partCs (dualL l) := List.take_of_length_le (by simp [hdl])
    simp [hdl, hll, hr.out]
end Go.Proofs.YtldnkeackphilaaGreatDoor.X
namespace Go.Proofs.YtldnkeackphilaaGreatDoor
open Go.RowKit

set_option maxRecDepth 8000

def sideF (s : Int) (pods : Bool) : Bool := s == 1 || (s == 3 && pods) || (s == 2 && !pods)
namespace X
end X
def textF (t : TermD) : Bool := t.kind == 2 || t.kind == 3
namespace X
end X
def numberF (t : TermD) : Bool := decide (t.kind ≥ 4) && decide (t.kind ≤ 6)
namespace X
end X
def ofPodF (t : TermD) : Bool := t.kind == 1 || t.side == 1
namespace X
end X
def termF (t : TermD) (pods : Bool) (sels : Int) : Bool :=
  if t.key.size > 127 then false
  else if t.kind = 1 then t.side == 0 && t.sel == 0
  else if t.kind = 2 ∨ t.kind = 4 then sideF t.side pods && t.sel == 0
  else if t.kind = 3 then sideF t.side pods && t.sel == 0 && t.key.toList == []
  else if t.kind = 5 then !pods && t.side == 0 && t.sel == 0
  else if t.kind = 6 then !pods && t.side == 0 && decide (t.sel ≥ 0) && decide (t.sel < sels)
  else false
namespace X
end X
end Go.Proofs.YtldnkeackphilaaGreatDoor
namespace Go.Proofs.YtldnkeackphilaaGreatDoor
open Go.RowKit

set_option maxRecDepth 8000

def leqS (x y : ByteArray) : Bool := Op.bytesLess x.toList y.toList || x.toList == y.toList
def textAt (l : List ByteArray) (i : Nat) : Bool := !decide ((l.getD i noText).size > 127) && !(decide (0 < i) && leqS (l.getD i noText) (l.getD (i - 1) noText))
def numAt (l : List Int) (i : Nat) : Bool := !(decide (l.getD i 0 < -999999999999999999) || decide (l.getD i 0 > 999999999999999999)) && !(decide (0 < i) && decide (l.getD i 0 ≤ l.getD (i - 1) 0))
def risingNumsF (l : List Int) : Bool := (List.range l.length).all (numAt l)
def risingTextsF (l : List ByteArray) : Bool := (List.range l.length).all (textAt l)
theorem all_upto {n : Nat} {f : Nat → Bool} : ((List.range (n + 1)).all f) = ((List.range n).all f && f n) := by
  simp [List.range_succ]
theorem all_false {n i : Nat} {f : Nat → Bool} (hi : i < n) (h : f i = false) : (List.range n).all f = false := by
  rw [Bool.eq_false_iff]
  intro ha
  rw [List.all_eq_true] at ha
  have := ha i (List.mem_range.2 hi)
  rw [h] at this
  cases this
theorem ex_at {α : Type} {l : List α} {i : Nat} (h : i < l.length) : ∃ x, l[i]? = some x := ⟨_, List.getElem?_eq_getElem h⟩
def Upto (f : Nat → Bool) (i : Nat) : Prop := (List.range i).all f = true
theorem Upto.zero (f : Nat → Bool) : Upto f 0 := rfl
theorem Upto.next {f : Nat → Bool} {i : Nat} (hok : Upto f i) (hf : f i = true) : Upto f (i + 1) := by
  unfold Upto at *
  rw [all_upto, hok, hf]
  rfl
theorem wrapN {n : Nat} (h : n ≤ 35184372088064) : IntKind.i64.wrap ((n : Int) + 1) = (n : Int) + 1 := X.wrap64 (by omega) (by omega)
theorem wrapP {n : Nat} (h : n ≤ 35184372088064) : IntKind.i64.wrap ((n : Int) - 1) = (n : Int) - 1 := X.wrap64 (by omega) (by omega)
namespace X
end X
end Go.Proofs.YtldnkeackphilaaGreatDoor
namespace Go.Proofs.YtldnkeackphilaaGreatDoor
open Go.RowKit

set_option maxRecDepth 8000

def eqT (a b : TermD) : Bool := a.kind == b.kind && (a.side == b.side && (a.key.toList == b.key.toList && a.sel == b.sel))
def restF (l : LitD) (sets rel num other of_ key : Bool) : Bool :=
  !(!sets && (decide (l.texts.length > 0) || decide (l.nums.length > 0))) &&
  !((!rel && l.rel != 0) || (!num && l.num != 0) || (!other && !(eqT l.other .zero))) &&
  ((of_ || l.of_ == 0) && (key || (l.key.toList == [] && l.sel == 0)))
theorem noText_l : noText.toList = [] := by simp [noText]
namespace X
end X
def LitD.fits (l : LitD) : Prop := l.texts.length ≤ 35184372088064 ∧ l.nums.length ≤ 35184372088064
def inF (l : LitD) : Bool := if textF l.term then l.nums.length == 0 && risingTextsF l.texts else numberF l.term && l.texts.length == 0 && risingNumsF l.nums
namespace X
end X
def relF (l : LitD) : Bool := numberF l.term && (if l.rel = 4 then decide (l.num ≥ -1000000000000000000) && decide (l.num ≤ 999999999999999999) else l.rel == 6 && decide (l.num ≥ -999999999999999999) && decide (l.num ≤ 1000000000000000000))
namespace X
end X
def podF (l : LitD) : Bool := l.other.side == 1 && (if textF l.term then l.rel == 1 && textF l.other else numberF l.term && l.other.kind == 4 && decide (l.rel ≥ 1) && decide (l.rel ≤ 6) && l.rel != 2)
namespace X
end X
def zeroF (l : LitD) : Bool := l.kind == 0 && eqT l.term .zero && restF l false false false false false false
namespace X
end X
end Go.Proofs.YtldnkeackphilaaGreatDoor
namespace Go.Proofs.YtldnkeackphilaaGreatDoor
open Go.RowKit

set_option maxRecDepth 8000

def litF (l : LitD) (pods : Bool) (sels : Int) : Bool :=
  if l.key.size > 127 then false
  else if l.kind = 6 ∨ l.kind = 7 then
    !(pods || !(eqT l.term .zero) || !(restF l false false false false false true)) && (if l.kind = 6 then l.sel == 0 else decide (l.sel ≥ 0) && decide (l.sel < sels))
  else termF l.term pods sels && (
    if l.kind = 1 then inF l && restF l true false false false false false
    else if l.kind = 2 then relF l && restF l false true true false false false
    else if l.kind = 3 then termF l.other pods sels && podF l && restF l false true false true false false
    else if l.kind = 4 then !(!(sideF l.of_ pods) || (l.term.kind != 1 && !textF l.term)) && (l.of_ == 1 || ofPodF l.term) && restF l false false false false true false
    else if l.kind = 5 then !pods && (l.term.kind == 1 || textF l.term) && ofPodF l.term && restF l false false false false false false
    else false)
namespace X
end X
end Go.Proofs.YtldnkeackphilaaGreatDoor
namespace Go.Proofs.YtldnkeackphilaaGreatDoor
open Go.RowKit

set_option maxRecDepth 8000

def PartD.fits (p : PartD) : Prop := p.lit.fits ∧ p.kids.length ≤ 35184372088064
structure FitsL (l : List PartD) : Prop where
  len : l.length ≤ 4398046511104
  each : ∀ p ∈ l, p.fits
def partWt (p : PartD) : Nat := 1 + p.lit.texts.length + p.lit.nums.length
def measF : List PartD → Nat → Nat
  | [], n => n
  | p :: l, n => if n ≤ 1000 then measF l (n + partWt p) else n
theorem drop_at {α : Type} {l : List α} {i : Nat} {x : α} (h : l[i]? = some x) : l.drop i = x :: l.drop (i + 1) := by
  obtain ⟨h1, h2⟩ := List.getElem?_eq_some_iff.1 h
  rw [List.drop_eq_getElem_cons h1, h2]
namespace X
end X
def measP : List (List PartD) → Nat → Nat
  | [], n => n
  | l :: ls, n => if n ≤ 1000 then measP ls (n + measF l 0) else n
def measureF (p : PlanD) : Nat := if measP p.sels (measF p.main 0) > 1000 then 1001 else measP p.sels (measF p.main 0)
structure FitsP (p : PlanD) : Prop where
  main : FitsL p.main
  len : p.sels.length ≤ 35184372088064
  each : ∀ l ∈ p.sels, FitsL l
namespace X
end X
end Go.Proofs.YtldnkeackphilaaGreatDoor
namespace Go.Proofs.YtldnkeackphilaaGreatDoor
open Go.RowKit

set_option maxRecDepth 8000

def partC (p : Part) : List AV := [iA p.kind, sA p.text, iA p.num, intsA p.kids]
def treeC (ps : List Part) : List AV := [.sl (ps.map partC)]
structure FitsT (ps : List Part) : Prop where
  len : ps.length ≤ 4398046511104
  each : ∀ p ∈ ps, p.kids.length ≤ 35184372088064
def largeGo : List Part → Nat → Nat
  | [], n => n
  | p :: l, n => if n ≤ 100000 then largeGo l (n + p.kids.length) else n
def largeF (ps : List Part) : Bool := decide (largeGo ps ps.length > 100000)
namespace X
theorem large_h (ps : List Part) (hp : FitsT ps) : Has Tryz.prog 26 [.agg (treeC ps)] (bA (largeF ps)) noTok := by
  refine fnX mixed ⟨[0, 1, 2, 3, 4, 16], [1], [], [], []⟩ Tryz.func26 rfl rfl rfl (by kernel_rfl) rfl ?_
  simp [treeC]
  refine wF_loop [] [.slot 1 1] [0, 1, 2, 3, 4] (fun x : Nat × Nat => St.asc [(0, .agg (treeC ps)), (1, .ref 1 0), (2, bA false), (3, iA x.2), (4, iA x.1)] [(1, .box 30 (treeC ps))] [(1, true)] false) (fun x => x.1 ≤ ps.length ∧ x.2 ≤ 4398046511104 + 35184372188064 ∧ largeGo (ps.drop x.1) x.2 = largeGo ps ps.length) (fun x => ps.length - x.1) (0, ps.length) _ (by simp) (by simp [treeC]) (by have := hp.len; simp; omega) ?_
  rintro ⟨i, n⟩ ⟨hi, hn, hm⟩
  have hlen := hp.len
  simp only at hi hn hm
  by_cases h : i < ps.length
  · have hx : ps[i]? = some ps[i] := List.getElem?_eq_getElem h
    have hk := hp.each ps[i] (List.getElem_mem h)
    rw [drop_at hx, largeGo] at hm
    generalize ps[i] = x at *
    have h1 : IntKind.i64.wrap ((i : Int) + 1) = (i : Int) + 1 := wrap64 (by omega) (by omega)
    have h2 : IntKind.i64.wrap ((n : Int) + x.kids.length) = (n : Int) + x.kids.length := wrap64 (by omega) (by omega)
    simp [treeC, partC, intsA, hx, h, h1, h2, -getElem?_pos]
    refine ⟨fun hn' => ⟨i + 1, n + x.kids.length, by simp [treeC, partC, intsA], ⟨by omega, by omega, ?_⟩, by omega⟩, fun hb => ?_⟩
    · rw [if_pos (by omega)] at hm
      exact hm
    · rw [if_neg (by omega)] at hm
      simp only [largeF, ← hm]
      rw [decide_eq_decide]
      omega
  · have : i = ps.length := by omega
    subst this
    rw [List.drop_length] at hm
    simp only [largeGo] at hm
    simp [treeC]
    simp only [largeF, ← hm]
    rw [decide_eq_decide]
    omega
end X
end Go.Proofs.YtldnkeackphilaaGreatDoor
namespace Go.Proofs.YtldnkeackphilaaGreatDoor
open Go.RowKit

set_option maxRecDepth 8000

theorem largeGo_ge : ∀ (l : List Part) (n : Nat), n ≤ largeGo l n
  | [], n => Nat.le_refl n
  | p :: l, n => by
    rw [largeGo]
    split
    · exact Nat.le_trans (Nat.le_add_right _ _) (largeGo_ge l _)
    · exact Nat.le_refl n
theorem largeGo_kids : ∀ (l : List Part) (n : Nat), largeGo l n ≤ 100000 → ∀ p ∈ l, p.kids.length ≤ 100000
  | [], _, _, p, hp => by cases hp
  | q :: l, n, h, p, hp => by
    rw [largeGo] at h
    split at h
    · rcases List.mem_cons.1 hp with rfl | hp
      · have := largeGo_ge l (n + p.kids.length); omega
      · exact largeGo_kids l _ h p hp
    · omega
namespace X
set_option maxHeartbeats 1000000 in
theorem copy_h (ps : List Part) (hp : FitsT ps) : Has Tryz.prog 14 [.agg (treeC ps)] (.agg (treeC ps)) noTok := by
  refine fnX mixed ⟨[0, 1, 2, 3, 4, 5, 6, 9, 15], [1, 2, 4, 6, 23, 26, 30, 31], [], [], []⟩ Tryz.func14 rfl rfl rfl (by kernel_rfl) (by simp [treeC]) ?_
  have h1 := large_h ps hp
  simp only [treeC] at h1 ⊢
  simp
  refine callP_of h1 (by simp) (by simp) ?_
  simp
  intro hL
  have hL' : largeGo ps ps.length ≤ 100000 := by simpa [largeF] using hL
  have hlen : ps.length ≤ 100000 := Nat.le_trans (largeGo_ge ps ps.length) hL'
  refine wF_loop [.slot 4 4 66] [.slot 1 1, .slot 4 4, .keep 2] [1, 2, 4, 5] (fun i : Nat => St.asc [(1, .ref 1 0), (2, .ref 2 0), (4, .rw 4 0 i), (5, iA i)] [(1, .box 30 [.sl (ps.map partC)]), (4, .row 66 ((ps.map partC).take i)), (2, .box 30 [.sl []])] [(1, true), (4, true), (2, true)] false) (fun i => i ≤ ps.length) (fun i => ps.length - i) 0 _ (by simp) (by simp) (by simp) ?_
  intro i hi
  by_cases h : i < ps.length
  · have hx : ps[i]? = some ps[i] := List.getElem?_eq_getElem h
    have hk := largeGo_kids ps _ hL' ps[i] (List.getElem_mem h)
    have htk : (ps.map partC).take (i + 1) = (ps.map partC).take i ++ [partC ps[i]] := by rw [List.take_add_one, List.getElem?_map, hx]; rfl
    generalize ps[i] = x at *
    have w1 : IntKind.i64.wrap ((i : Int) + 1) = (i : Int) + 1 := wrap64 (by omega) (by omega)
    have hmin : min i ps.length = i := by omega
    simp [hx, h, w1, partC, intsA, hmin, -getElem?_pos]
    refine ⟨⟨by omega, by omega⟩, ⟨by omega, by omega⟩, i + 1, ?_, by omega, by omega⟩
    rw [htk]
    simp [partC, intsA, List.take_take]
  · obtain rfl : i = ps.length := by omega
    have hll : List.take ps.length (List.map partC ps) = List.map partC ps := List.take_of_length_le (by simp)
    simp [hll]
end X
end Go.Proofs.YtldnkeackphilaaGreatDoor
namespace Go.Proofs.YtldnkeackphilaaGreatDoor.X
open Go.RowKit

set_option maxRecDepth 8000 in
set_option maxHeartbeats 1000000 in
theorem copy_own (ps : List Part) (hb : PB ps) (hpos : 0 < ps.length) (hL : largeF ps = false) : Hs Tryz.prog 14 [.agg [psA ps]] [] (.agg [.rw 2000 0 ps.length]) [] [(2000, .row 66 (ps.map pCs))] := by
  have hp : FitsT ps := ⟨by have := hb.len; omega, fun p hp => (hb.part p hp).2.2.2.1⟩
  have hL' : largeGo ps ps.length ≤ 100000 := by simpa [largeF] using hL
  have hlen : ps.length ≤ 100000 := Nat.le_trans (largeGo_ge ps ps.length) hL'
  have h1 := large_h ps hp
  rw [hL] at h1
  refine hsX mixed ⟨[0, 1, 2, 3, 4, 5, 6, 9, 15], [1, 2, 4, 6, 23, 26, 30, 31], [], [], []⟩ [] [] [.cell 2 0 2000] Tryz.func14 rfl rfl rfl (by kernel_rfl) (by simp) ?_
  simp only [psA, treeC] at h1 ⊢
  simp
  refine callP_of h1 (by simp) (by simp) ?_
  simp
  refine wF_loop [.slot 4 4 66] [.slot 1 1, .slot 4 4, .keep 2] [1, 2, 4, 5] (fun i : Nat => St.asc [(1, .ref 1 0), (2, .ref 2 0), (4, .rw 4 0 i), (5, iA i)] [(1, .box 30 [.sl (ps.map pCs)]), (4, .row 66 ((ps.map pCs).take i)), (2, .box 30 [.sl []])] [(1, true), (4, true), (2, true)] false) (fun i => i ≤ ps.length) (fun i => ps.length - i) 0 _ (by simp) (by simp) (by simp) ?_
  intro i hi
  by_cases h : i < ps.length
  · have hx : ps[i]? = some ps[i] := List.getElem?_eq_getElem h
    have hk := largeGo_kids ps _ hL' ps[i] (List.getElem_mem h)
    have htk : (ps.map pCs).take (i + 1) = (ps.map pCs).take i ++ [pCs ps[i]] := by rw [List.take_add_one, List.getElem?_map, hx]; rfl
    generalize ps[i] = x at *
    have w1 : IntKind.i64.wrap ((i : Int) + 1) = (i : Int) + 1 := wrap64 (by omega) (by omega)
    have hmin : min i ps.length = i := by omega
    simp [hx, h, w1, pCs, intsA, hmin, -getElem?_pos]
    refine ⟨⟨by omega, by omega⟩, ⟨by omega, by omega⟩, i + 1, ?_, by omega, by omega⟩
    rw [htk]
    simp [pCs, intsA, List.take_take]
  · obtain rfl : i = ps.length := by omega
    simp
    exact List.take_of_length_le (by simp)
end Go.Proofs.YtldnkeackphilaaGreatDoor.X
namespace Go.Proofs.YtldnkeackphilaaGreatDoor

inductive GoodT : Bool → Tr → Prop
  | mk (b : Bool) (k : Int) (neg : Bool) (l : LitD) (kids : List Tr) (sel : Option Tr) (h1 : neg = true → k = 5) (h2 : l.kind = 2 → l.rel = 4 ∨ l.rel = 6) (h3 : l.kind = 3 → l.rel ≠ 2) (h4 : (l.kind = 7 ∨ l.term.kind = 6) ↔ sel.isSome = true)
      (h5 : ∀ t ∈ kids, t.kind ≠ 1 ∧ t.kind ≠ 2) (h6 : k = 1 ∨ k = 2 → kids = [] ∧ sel = none) (h7 : ∀ t ∈ kids, GoodT b t) (h8 : ∀ u, sel = some u → b = true) (h9 : ∀ u, sel = some u → GoodT false u) : GoodT b (.mk k neg l kids sel)
theorem good_leaf (b : Bool) (k : Int) : GoodT b (.leaf k) :=
  .mk b k false .zero [] none (by simp) (by simp [LitD.zero]) (by simp [LitD.zero]) (by simp [LitD.zero, TermD.zero]) (by simp) (by simp) (by simp) (by simp) (by simp)
theorem good_truth (b : Bool) (c : Bool) (s : Int) : GoodT b (truthF c s) := by unfold truthF; split <;> exact good_leaf _ _
theorem good_lit (b : Bool) (l : LitD) (s : Int) (sel : Option Tr) (h2 : l.kind = 2 → l.rel = 4 ∨ l.rel = 6) (h3 : l.kind = 3 → l.rel ≠ 2) (h4 : (l.kind = 7 ∨ l.term.kind = 6) ↔ sel.isSome = true) (h8 : ∀ u, sel = some u → b = true ∧ GoodT false u) : GoodT b (.lit l s sel) :=
  .mk b 5 _ l [] sel (fun _ => rfl) h2 h3 h4 (by simp) (by omega) (by simp) (fun u h => (h8 u h).1) (fun u h => (h8 u h).2)
theorem good_join (b : Bool) (kind : Int) (hk : kind = 3 ∨ kind = 4) (kids : List Tr) (h : ∀ t ∈ kids, GoodT b t) : GoodT b (joinF kind kids) := by
  unfold joinF
  dsimp only
  have hwd : ((if kind = 4 then (1 : Int) else 2) = 1 ∧ (if kind = 4 then (2 : Int) else 1) = 2) ∨ ((if kind = 4 then (1 : Int) else 2) = 2 ∧ (if kind = 4 then (2 : Int) else 1) = 1) := by rcases hk with rfl | rfl <;> simp
  generalize (if kind = 4 then (1 : Int) else 2) = win at *
  generalize (if kind = 4 then (2 : Int) else 1) = drop at *
  split
  · exact good_leaf _ _
  · next hw =>
    have hf : ∀ t ∈ kids.filter (fun t => decide (t.kind ≠ drop)), GoodT b t ∧ t.kind ≠ 1 ∧ t.kind ≠ 2 := fun t ht => by
      obtain ⟨h1, h2⟩ := List.mem_filter.1 ht
      refine ⟨h t h1, ?_⟩
      have h3 : ¬ t.kind = win := fun e => hw (List.any_eq_true.2 ⟨t, h1, by simpa using e⟩)
      have h2 : ¬ t.kind = drop := by simpa using h2
      omega
    generalize kids.filter (fun t => decide (t.kind ≠ drop)) = l at hf ⊢
    split
    · exact good_leaf _ _
    · next hd => exact (hf _ (by simp)).1
    · exact .mk b kind false .zero l none (by simp) (by simp [LitD.zero]) (by simp [LitD.zero]) (by simp [LitD.zero, TermD.zero]) (fun t ht => (hf t ht).2) (by omega) (fun t ht => (hf t ht).1) (by simp) (by simp)
def GoodO (b : Bool) (x : OpdD) : Prop := (x.term.kind = 6 ↔ x.sel.isSome = true) ∧ ∀ u, x.sel = some u → b = true ∧ GoodT false u
theorem good_against (b : Bool) (t c : OpdD) (cmp s : Int) (hc : 1 ≤ cmp ∧ cmp ≤ 6 ∧ cmp ≠ 2) (h : GoodO b t) : GoodT b (againstF t c cmp s) := by
  unfold againstF
  have e : (againstL t c cmp).term = t.term ∧ (againstL t c cmp).kind ≠ 7 ∧ (againstL t c cmp).kind ≠ 3 ∧ ((againstL t c cmp).kind = 2 → (againstL t c cmp).rel = 4 ∨ (againstL t c cmp).rel = 6) := by
    unfold againstL
    split
    · split <;> simp
    · split
      · simp
      · split
        · simp
        · split
          · simp
          · split
            · simp
            · omega
  refine good_lit b _ s _ e.2.2.2 (fun h => absurd h e.2.2.1) ?_ h.2
  rw [e.1]
  rw [← h.1]
  exact ⟨fun h => h.resolve_left e.2.1, .inr⟩
theorem good_compared (b : Bool) (x y : OpdD) (n s : Int) (hn : 1 ≤ n ∧ n ≤ 6) (hx : GoodO b x) (hy : GoodO b y) : GoodT b (comparedX x y n s) := by
  unfold comparedX
  dsimp only
  have hc : 1 ≤ (if n = 2 then 1 else n) ∧ (if n = 2 then 1 else n) ≤ 6 ∧ (if n = 2 then 1 else n) ≠ 2 := by split <;> omega
  generalize (if n = 2 then 1 else n) = cmp at *
  generalize (if n = 2 then 1 - s else s) = s'
  have ht : 1 ≤ turnF cmp ∧ turnF cmp ≤ 6 ∧ turnF cmp ≠ 2 := by
    unfold turnF
    repeat' split
    all_goals omega
  split
  · exact good_truth _ _ _
  split
  · exact good_truth _ _ _
  split
  · exact good_against b y x _ _ ht hy
  split
  · exact good_against b x y _ _ hc hx
  split
  · refine good_lit b _ s' _ (by simp) (fun _ => ht.2.2) ?_ hy.2
    simpa using hy.1
  · refine good_lit b _ s' _ (by simp) (fun _ => hc.2.2) ?_ hx.2
    simpa using hx.1
theorem good_member (b : Bool) (x : OpdD) (es : List OpdD) (s : Int) (hx : GoodO b x) : GoodT b (memberX x es s) := by
  unfold memberX
  split
  · exact good_truth _ _ _
  split
  · exact good_truth _ _ _
  · refine good_lit b _ s _ (by simp) (by simp) ?_ hx.2
    simpa using hx.1
set_option linter.unusedSectionVars false
section
variable {ps : List Part} {scope : Int} {ts : List (Int × Int)} (ht : Typed ps scope ts)
include ht
def selB (ps : List Part) (scope : Int) (i : Nat) : Bool := decide (scopeAt ps scope i = 2)
theorem sel_scope {i : Nat} {p : Part} (hp : ps[i]? = some p) (hk : p.kind = 8 ∨ p.kind = 9 ∨ p.kind = 20) : scopeAt ps scope i = 2 := by
  obtain ⟨t, h1, h2⟩ := ht.each i p hp
  have hs : selectorF (scopesF ps scope) (ts.take i) i p = none := by
    have orE : ∀ {f : Option (Int × Int)} {u : Int × Int}, orElse f u = .inr t → f = none := fun {f u} h => by
      unfold orElse at h
      split at h
      · cases h
      · rfl
    have hne : ¬(p.kind = 1 ∨ p.kind = 2) ∧ ¬(p.kind = 3 ∨ p.kind = 4 ∨ p.kind = 5) ∧ ¬(p.kind = 6 ∨ p.kind = 7) := by omega
    rw [typeF, if_neg hne.1, if_neg hne.2.1, if_neg hne.2.2] at h2
    by_cases h89 : p.kind = 8 ∨ p.kind = 9
    · rw [if_pos h89] at h2; exact orE h2
    · rw [if_neg h89, if_pos (by omega)] at h2; exact orE h2
  unfold selectorF at hs
  split at hs
  · cases hs
  · next h => simpa [scopeAt] using h
theorem kid_scope {i : Nat} {p : Part} (hp : ps[i]? = some p) {k : Nat} (hk : (k : Int) ∈ p.kids) (hs : ¬(p.kind = 8 ∨ p.kind = 9 ∨ p.kind = 20)) : selB ps scope k = selB ps scope i := by
  unfold selB
  rw [scope_kid ht.valid scope hp hk]
  simp [selK, hs]
theorem sel_kid {i : Nat} {p : Part} (hp : ps[i]? = some p) {k : Nat} (hk : (k : Int) ∈ p.kids) (hs : p.kind = 8 ∨ p.kind = 9 ∨ p.kind = 20) : selB ps scope k = false := by
  unfold selB
  rw [scope_kid ht.valid scope hp hk]
  simp [selK, hs]
variable (c : Int → Int → Tr) (hc : ∀ (j : Nat) p s, ps[j]? = some p → 1 ≤ p.kind ∧ p.kind ≤ 10 → GoodT (selB ps scope j) (c j s))
include hc
theorem good_kid {i : Nat} {p : Part} (hp : ps[i]? = some p) (h : p.kind = 3 ∨ p.kind = 4 ∨ p.kind = 5 ∨ p.kind = 8 ∨ p.kind = 9 ∨ p.kind = 20) {k : Int} (hk : k ∈ p.kids) (s : Int) : ∃ j : Nat, k = j ∧ GoodT (selB ps scope j) (c k s) := by
  have hw := wf_of_shape (shape_of_valid ht.valid)
  have h1 := hw.kids i p hp k hk
  have h2 := (List.getElem?_eq_some_iff.1 hp).1
  obtain ⟨j, rfl⟩ : ∃ j : Nat, k = j := ⟨k.toNat, by omega⟩
  have hq : ps[j]? = some ps[j] := List.getElem?_eq_getElem (by omega)
  have h3 := hw.kinds i p hp j hk
  rw [kindAt_nat ps j _ hq] at h3
  have h4 : isCondF ps[j].kind = true := by
    unfold kidFitsF at h3
    rwa [if_pos h] at h3
  exact ⟨j, rfl, hc j _ s hq (by simpa [isCondF] using h4)⟩
theorem kids_one {i : Nat} {p : Part} (hp : ps[i]? = some p) (h : p.kind = 3 ∨ p.kind = 8 ∨ p.kind = 9 ∨ p.kind = 19 ∨ p.kind = 20) : ∃ k, p.kids = [k] := by
  have hw := wf_of_shape (shape_of_valid ht.valid)
  have hfit := hw.fits i p hp
  have hcnt : kidCountF p.kind p.kids.length = true := by simp only [partFitsF, Bool.and_eq_true, decide_eq_true_eq] at hfit; exact hfit.2
  have h1 : (p.kids.length : Int) = 1 := by rcases h with h | h | h | h | h <;> simpa [kidCountF, h] using hcnt
  replace h1 : p.kids.length = 1 := by omega
  match hl : p.kids, h1 with
  | [a], _ => exact ⟨a, rfl⟩
theorem good_opd {i : Nat} {p : Part} (hp : ps[i]? = some p) (h67 : p.kind = 6 ∨ p.kind = 7) {k : Nat} (hk : (k : Int) ∈ p.kids) : GoodO (selB ps scope i) (opdF c ps k) := by
  have hw := wf_of_shape (shape_of_valid ht.valid)
  have h1 := hw.kids i p hp k hk
  have h2 := (List.getElem?_eq_some_iff.1 hp).1
  have hq : ps[k]? = some ps[k] := List.getElem?_eq_getElem (by omega)
  rw [← kid_scope ht hp hk (by omega)]
  unfold opdF
  rw [partAt_nat hq]
  have hn : ∀ x : OpdD, x.sel = none → x.term.kind ≠ 6 → GoodO (selB ps scope k) x := fun x h1 h2 => ⟨by simp [h1, h2], fun u hu => by rw [h1] at hu; cases hu⟩
  unfold opdOf
  dsimp only
  split
  · exact hn _ rfl (by simp [TermD.zero])
  split
  · exact hn _ rfl (by simp [TermD.zero])
  split
  · exact hn _ rfl (by simp)
  split
  · exact hn _ rfl (by simp)
  split
  · exact hn _ rfl (by simp)
  split
  · next h20 =>
    obtain ⟨a, ha⟩ := kids_one ht c hc hq (by omega)
    obtain ⟨j, hj, hg⟩ := good_kid ht c hc hq (by omega) (k := a) (by simp [ha]) 0
    subst hj
    rw [sel_kid ht hq (k := j) (by simp [ha]) (by omega)] at hg
    refine ⟨by simp, fun u hu => ⟨by simp [selB, sel_scope ht hq (by omega)], ?_⟩⟩
    simp only [ha, List.headD_cons, Option.some.injEq] at hu
    rw [← hu]
    exact hg
  · split
    · exact hn _ rfl (by simp)
    · split
      · exact hn _ rfl (by simp [TermD.zero])
      · exact hn _ rfl (by simp [TermD.zero])
theorem good_near {i : Nat} {p : Part} (hp : ps[i]? = some p) (hk : p.kind = 8 ∨ p.kind = 9) (s : Int) : GoodT (selB ps scope i) (nearF c p s) := by
  obtain ⟨a, ha⟩ := kids_one ht c hc hp (by omega)
  obtain ⟨j, hj, hg⟩ := good_kid ht c hc hp (by omega) (k := a) (by simp [ha]) 0
  subst hj
  rw [sel_kid ht hp (k := j) (by simp [ha]) (by omega)] at hg
  have e : p.kids.headD 0 = (j : Int) := by rw [ha]; rfl
  unfold nearF
  dsimp only
  rw [e]
  by_cases h2 : (c j 0).kind = 2
  · rw [if_pos h2]
    exact good_truth _ _ _
  · rw [if_neg h2]
    refine good_lit _ _ s _ (by simp) (by simp) (by simp) fun u hu => ⟨by simp [selB, sel_scope ht hp (by omega)], ?_⟩
    cases hu
    exact hg
theorem key_opd {i : Nat} {p : Part} (hp : ps[i]? = some p) (h7 : p.kind = 7) {a b : Nat} (hab : p.kids = [(a : Int), (b : Int)]) {q : Part} (hq : ps[b]? = some q) (hk : q.kind = 16 ∨ q.kind = 17) : (keyTermF (opdF c ps a)).kind ≠ 6 := by
  have hw := wf_of_shape (shape_of_valid ht.valid)
  have hil := (List.getElem?_eq_some_iff.1 hp).1
  have ha := hw.kids i p hp a (by simp [hab])
  have hb := hw.kids i p hp b (by simp [hab])
  have hpa : ps[a]? = some ps[a] := List.getElem?_eq_getElem (by omega)
  obtain ⟨t, -, h2⟩ := ht.each i p hp
  obtain ⟨ta, ha1, ha2⟩ := ht.each a _ hpa
  obtain ⟨tb, hb1, hb2⟩ := ht.each b _ hq
  have hs : sidesF (ts.take i) i p = none := by
    have hne : ¬(p.kind = 1 ∨ p.kind = 2) ∧ ¬(p.kind = 3 ∨ p.kind = 4 ∨ p.kind = 5) := by omega
    rw [typeF, if_neg hne.1, if_neg hne.2, if_pos (by omega)] at h2
    unfold orElse at h2
    split at h2
    · cases h2
    · assumption
  simp only [sidesF, hab, List.getD_cons_zero, List.getD_cons_succ, sortAt_take ts ha.1 ha.2, sortAt_take ts hb.1 hb.2, sortAt_nat ha1, sortAt_nat hb1, h7] at hs
  have htb : tb.1 = 4 := by
    rw [typeF, if_neg (by omega), if_neg (by omega), if_neg (by omega), if_neg (by omega), if_neg (by omega), if_neg (by omega), if_neg (by omega), if_neg (by omega), if_neg (by omega)] at hb2
    unfold speaksF at hb2
    rw [if_neg (by omega)] at hb2
    by_cases hcnd : (if q.kind = 17 ∨ q.kind = 18 then q.num = 2 ∧ (scopesF ps scope).getD (b : Int).toNat 0 = 2 else q.num = 1 ∨ q.num = (scopesF ps scope).getD (b : Int).toNat 0)
    · rw [if_neg (by simpa using hcnd), if_neg (by omega), if_neg (by omega), if_neg (by omega)] at hb2
      cases hb2
      rfl
    · rw [if_pos hcnd] at hb2
      cases hb2
  have hta : ta.1 = 2 := by
    unfold sidesG at hs
    by_cases h1 : ta.1 ≠ 2 ∧ ta.1 ≠ 3
    · simp [h1] at hs
    · rw [if_neg h1] at hs
      by_cases h3 : ta.1 = 2
      · exact h3
      · simp [htb, h3] at hs
  have hka : ps[a].kind ≠ 20 ∧ ps[a].kind ≠ 18 ∧ ps[a].kind ≠ 19 := by
    rw [typeF] at ha2
    refine ⟨fun e => ?_, fun e => ?_, fun e => ?_⟩
    · simp only [e] at ha2
      simp [orElse] at ha2
      split at ha2
      · cases ha2
      · cases ha2; simp at hta
    · simp only [e] at ha2
      simp [speaksF, e] at ha2
      split at ha2
      · cases ha2
      · split at ha2
        · cases ha2
        · cases ha2; simp at hta
    · simp only [e] at ha2
      simp at ha2
      split at ha2
      · cases ha2
      · cases ha2; simp at hta
  unfold keyTermF opdF
  rw [partAt_nat hpa]
  unfold opdOf
  dsimp only
  repeat' split
  all_goals simp_all [TermD.zero]
theorem good_step (i : Nat) (p : Part) (hp : ps[i]? = some p) (hk : 1 ≤ p.kind ∧ p.kind ≤ 10) (s : Int) : GoodT (selB ps scope i) (condStep c ps i s) := by
  have hw := wf_of_shape (shape_of_valid ht.valid)
  unfold condStep
  rw [partAt_nat hp]
  dsimp only
  split
  · exact good_truth _ _ _
  split
  · next h =>
    obtain ⟨a, ha⟩ := kids_one ht c hc hp (by omega)
    obtain ⟨j, hj, hg⟩ := good_kid ht c hc hp (by omega) (k := a) (by simp [ha]) (1 - s)
    subst hj
    rw [kid_scope ht hp (k := j) (by simp [ha]) (by omega)] at hg
    rw [ha]
    exact hg
  split
  · refine good_join _ _ (by split <;> simp) _ fun t htm => ?_
    obtain ⟨k, hkm, rfl⟩ := List.mem_map.1 htm
    obtain ⟨j, hj, hg⟩ := good_kid ht c hc hp (by omega) hkm s
    subst hj
    rwa [kid_scope ht hp (k := j) hkm (by omega)] at hg
  split
  · exact good_near ht c hc hp (by omega) s
  split
  · exact good_near ht c hc hp (by omega) (1 - s)
  split
  · exact good_lit _ _ _ _ (by simp) (by simp) (by simp [LitD.zero, TermD.zero]) (by simp)
  have two : ∃ a b : Nat, p.kids = [(a : Int), (b : Int)] ∧ b < ps.length := by
    have hfit := hw.fits i p hp
    have hcnt : kidCountF p.kind p.kids.length = true := by simp only [partFitsF, Bool.and_eq_true, decide_eq_true_eq] at hfit; exact hfit.2
    have h67 : p.kind = 6 ∨ p.kind = 7 := by omega
    have h1 : (p.kids.length : Int) = 2 := by rcases h67 with h | h <;> simpa [kidCountF, h] using hcnt
    replace h1 : p.kids.length = 2 := by omega
    have hkd := hw.kids i p hp
    have hil := (List.getElem?_eq_some_iff.1 hp).1
    match hl : p.kids, h1 with
    | [a, b], _ =>
      have h2 := hkd a (by simp [hl])
      have h3 := hkd b (by simp [hl])
      exact ⟨a.toNat, b.toNat, by rw [Int.toNat_of_nonneg h2.1, Int.toNat_of_nonneg h3.1], by omega⟩
  obtain ⟨a, b, hab, hbl⟩ := two
  have hx := good_opd ht c hc hp (by omega) (k := a) (by simp [hab])
  have hy := good_opd ht c hc hp (by omega) (k := b) (by simp [hab])
  split
  · next h6 =>
    have hfit := hw.fits i p hp
    have hnum : numFitsF p.kind p.num = true := by simp only [partFitsF, Bool.and_eq_true, decide_eq_true_eq] at hfit; exact hfit.1.2
    unfold comparedF
    rw [hab]
    exact good_compared _ _ _ _ _ (by simpa [numFitsF, h6] using hnum) hx hy
  · rw [hab]
    simp only [List.getD_cons_zero, List.getD_cons_succ]
    unfold memberF
    have hq : ps[b]? = some ps[b] := List.getElem?_eq_getElem hbl
    rw [partAt_nat hq]
    dsimp only
    split
    · next h16 => exact good_lit _ _ _ _ (by simp) (by simp) (by simpa using key_opd ht c hc hp (by omega) hab hq (.inl h16)) (by simp)
    split
    · next h17 => exact good_lit _ _ _ _ (by simp) (by simp) (by simpa using key_opd ht c hc hp (by omega) hab hq (.inr h17)) (by simp)
    · exact good_member _ _ _ _ hx
end
theorem good_cond {ps : List Part} {scope : Int} {ts : List (Int × Int)} (ht : Typed ps scope ts) : ∀ (f : Nat) (i : Nat) (p : Part) (s : Int), ps[i]? = some p → 1 ≤ p.kind ∧ p.kind ≤ 10 → GoodT (selB ps scope i) (condF ps f i s)
  | 0, _, _, _, _, _ => by rw [condF]; exact good_leaf _ _
  | f + 1, i, p, s, hp, h => by
    rw [condF]
    exact good_step ht (condF ps f) (fun j q s hq hj => good_cond ht f j q s hq hj) i p hp h s
end Go.Proofs.YtldnkeackphilaaGreatDoor
namespace Go.Proofs.YtldnkeackphilaaGreatDoor
open Go.RowKit

set_option maxRecDepth 8000

def stepOk (pods : Bool) (sels : Int) (free : List Int) (p : PartD) : Bool :=
  let joins := p.kind == 3 || p.kind == 4
  !(decide (p.kind < 1) || decide (p.kind > 5) || decide (p.kids.length > free.length) || (joins != decide (p.kids.length ≥ 2)) || (!joins && decide (p.kids.length > 0))) &&
  !(p.kind == 5 && !litF p.lit pods sels) && !(p.kind != 5 && (p.neg || !zeroF p.lit)) &&
  (p.kids == free.drop (free.length - p.kids.length))
def stepF (free : List Int) (i : Nat) (p : PartD) : List Int := free.take (free.length - p.kids.length) ++ [(i : Int)]
def freeF (pods : Bool) (sels : Int) : List PartD → Nat → List Int → Option (List Int)
  | [], _, free => some free
  | p :: l, i, free => if stepOk pods sels free p then freeF pods sels l (i + 1) (stepF free i p) else none
def listF (l : List PartD) (pods : Bool) (sels : Int) : Bool := match freeF pods sels l 0 [] with
  | some free => free.length == 1
  | none => false
namespace X
end X
end Go.Proofs.YtldnkeackphilaaGreatDoor
namespace Go.Proofs.YtldnkeackphilaaGreatDoor
open Go.RowKit

set_option maxRecDepth 8000

def selAt (p : PlanD) (i : Nat) : Bool := listF (p.sels.getD i []) true 0
def forF (p : PlanD) (pods : Bool) : Bool := !(decide (measureF p > 1000) || (pods && decide (p.sels.length > 0))) && listF p.main pods p.sels.length && (List.range p.sels.length).all (selAt p)
namespace X
end X
def planOkF (p : PlanD) : Bool := forF p false || forF p true
namespace X
end X
end Go.Proofs.YtldnkeackphilaaGreatDoor
namespace Go.Proofs.YtldnkeackphilaaGreatDoor
open Go.RowKit

set_option maxRecDepth 8000

structure LookD where
  sels : Int
  node : Bool
def lookA (w : LookD) : AV := .ptr [iA w.sels, bA w.node]
def moverF (w : LookD) : Int := if w.node then 2 else 3
namespace X
theorem mover_h (w : LookD) : Has Tryz.prog 197 [lookA w] (iA (moverF w)) noTok := by
  refine fnX mixed ⟨[0, 2, 6], [], [], [], []⟩ Tryz.func197 rfl rfl rfl (by kernel_rfl) rfl ?_
  simp [lookA]
  all_goals grind [moverF]
end X
def placeF (w : LookD) (sel : Int) : Bool := decide (sel ≥ 0) && decide (sel < w.sels)
namespace X
theorem place_h (w : LookD) (sel : Int) : Has Tryz.prog 166 [lookA w, iA sel] (bA (placeF w sel)) noTok := by
  refine fnX mixed ⟨[0, 1, 4], [], [], [], []⟩ Tryz.func166 rfl rfl rfl (by kernel_rfl) rfl ?_
  simp [lookA, placeF]
theorem fitsText_h (s : ByteArray) : Has Tryz.prog 159 [sA s] (bA (decide (s.size ≤ 127))) noTok := by
  refine fnX mixed ⟨[0, 2], [], [], [], []⟩ Tryz.func159 rfl rfl rfl (by kernel_rfl) rfl ?_
  simp
  all_goals grind
end X
def fitsNumF (n : Int) : Bool := decide (n ≥ -999999999999999999) && decide (n ≤ 999999999999999999)
namespace X
theorem fitsNum_h (n : Int) : Has Tryz.prog 162 [iA n] (bA (fitsNumF n)) noTok := by
  refine fnX mixed ⟨[0, 2], [], [], [], []⟩ Tryz.func162 rfl rfl rfl (by kernel_rfl) rfl ?_
  simp [fitsNumF]
end X
def plainTextF (t : TermD) : Bool := t.kind == 1 && t.side == 0 && t.sel == 0 && decide (t.key.size ≤ 127)
namespace X
theorem plainText_h (t : TermD) : Has Tryz.prog 165 [.agg (termCs t)] (bA (plainTextF t)) noTok := by
  refine fnX mixed ⟨[0, 1, 2], [1], [], [], []⟩ Tryz.func165 rfl rfl rfl (by kernel_rfl) rfl ?_
  simp [termCs]
  all_goals grind [plainTextF]
end X
def textTermF (w : LookD) (t : TermD) : Bool := !(t.sel != 0 || (t.side != 1 && t.side != moverF w)) && ((t.kind == 2 && decide (t.key.size ≤ 127)) || (t.kind == 3 && t.key.toList == []))
namespace X
theorem textTerm_h (w : LookD) (t : TermD) : Has Tryz.prog 157 [lookA w, .agg (termCs t)] (bA (textTermF w t)) noTok := by
  refine fnX mixed ⟨[0, 1, 3, 4, 19], [3], [(3, [3]), (5, [3]), (9, [3]), (13, [3])], [], []⟩ Tryz.func157 rfl rfl rfl (by kernel_rfl) rfl ?_
  simp [termCs, lookA]
  repeat' first
    | (refine callG_of (fun _ => mover_h w) (by simp) (by simp) ?_; simp)
    | (refine .inl (callG_of (fun _ => mover_h w) (by simp) (by simp) ?_); simp)
    | refine And.intro ?_ ?_
    | intro _
  all_goals grind [textTermF]
end X
def numberTermF (w : LookD) (t : TermD) : Bool :=
  if t.key.size > 127 then false
  else if t.kind = 4 then t.sel == 0 && (t.side == 1 || t.side == moverF w)
  else if t.kind = 5 then w.node && t.sel == 0 && t.side == 0
  else if t.kind = 6 then w.node && placeF w t.sel && t.side == 0
  else false
namespace X
theorem numberTerm_h (w : LookD) (t : TermD) : Has Tryz.prog 160 [lookA w, .agg (termCs t)] (bA (numberTermF w t)) noTok := by
  refine fnX mixed ⟨[0, 1, 3, 4, 8, 10, 11, 28, 44], [3], [(3, [3]), (13, [3]), (17, [3]), (21, [3])], [], []⟩ Tryz.func160 rfl rfl rfl (by kernel_rfl) rfl ?_
  simp [termCs, lookA]
  repeat' first
    | (refine callG_of (fun _ => mover_h w) (by simp) (by simp) ?_; simp)
    | (refine .inl (callG_of (fun _ => mover_h w) (by simp) (by simp) ?_); simp)
    | (refine callG_of (fun _ => place_h w _) (by simp) (by simp) ?_; simp)
    | (refine .inl (callG_of (fun _ => place_h w _) (by simp) (by simp) ?_); simp)
    | refine And.intro ?_ ?_
    | intro _
  all_goals grind [numberTermF]
end X
def pairF (w : LookD) (l : LitD) : Bool :=
  if l.other.side ≠ 1 then false
  else if textTermF w l.term then l.rel == 1 && textTermF w l.other
  else if !numberTermF w l.term || l.other.kind != 4 || !numberTermF w l.other then false
  else l.rel == 1 || l.rel == 3 || l.rel == 4 || l.rel == 5 || l.rel == 6
namespace X
set_option maxHeartbeats 1000000 in
theorem pair_h (w : LookD) (l : LitD) : Has Tryz.prog 163 [lookA w, .agg (litCs l)] (bA (pairF w l)) noTok := by
  refine fnX mixed ⟨[0, 1, 3, 4, 8, 12, 39, 41, 42], [3], [], [], []⟩ Tryz.func163 rfl rfl rfl (by kernel_rfl) rfl ?_
  simp [litCs, strsA, intsA, lookA]
  repeat' first
    | refine And.intro ?_ ?_
    | intro _
    | (refine callP_of (textTerm_h w l.term) (by simp) (by simp) ?_; simp)
    | (refine .inl (callG_of (fun _ => textTerm_h w l.other) (by simp) (by simp) ?_); simp)
    | (refine callP_of (numberTerm_h w l.term) (by simp) (by simp) ?_; simp)
    | (refine .inl (callG_of (fun _ => numberTerm_h w l.other) (by simp) (by simp) ?_); simp)
  all_goals grind [pairF]
end X
def keysF (w : LookD) (l : LitD) : Bool :=
  if l.of_ = 1 then plainTextF l.term || textTermF w l.term
  else if l.of_ = moverF w then plainTextF l.term || (l.term.side == 1 && textTermF w l.term)
  else false
namespace X
set_option maxHeartbeats 1000000 in
theorem keys_h (w : LookD) (l : LitD) : Has Tryz.prog 164 [lookA w, .agg (litCs l)] (bA (keysF w l)) noTok := by
  refine fnX mixed ⟨[0, 1, 3, 4, 6, 7, 18], [3], [], [], []⟩ Tryz.func164 rfl rfl rfl (by kernel_rfl) rfl ?_
  simp [litCs, strsA, intsA, lookA]
  repeat' first
    | refine And.intro ?_ ?_
    | intro _
    | (refine callP_of (plainText_h l.term) (by simp) (by simp) ?_; simp)
    | (refine .inl (callG_of (fun _ => textTerm_h w l.term) (by simp) (by simp) ?_); simp)
    | (refine callP_of (mover_h w) (by simp) (by simp) ?_; simp)
  all_goals grind [keysF]
end X
def sameF (a b : LitD) : Bool := a.kind == b.kind && eqT a.term b.term && a.rel == b.rel && a.num == b.num && (a.texts.length == 0 && a.nums.length == 0) && eqT a.other b.other && a.of_ == b.of_ && a.key.toList == b.key.toList && a.sel == b.sel
namespace X
set_option maxHeartbeats 1000000 in
theorem same_h (a b : LitD) (ha : a.fits) : Has Tryz.prog 156 [.agg (litCs a), .agg (litCs b)] (bA (sameF a b)) noTok := by
  refine fnX mixed ⟨[0, 1, 2, 3, 4], [2, 3], [], [], []⟩ Tryz.func156 rfl rfl rfl (by kernel_rfl) rfl ?_
  have h1 : IntKind.i64.wrap ((a.texts.length : Int) + a.nums.length) = (a.texts.length : Int) + a.nums.length := wrap64 (by have := ha.1; have := ha.2; omega) (by have := ha.1; have := ha.2; omega)
  have h2 : decide ((a.texts.length : Int) + a.nums.length = 0) = (a.texts.length == 0 && a.nums.length == 0) := by
    cases a.texts <;> cases a.nums <;> simp <;> omega
  simp [litCs, strsA, intsA, h1]
  simp only [sameF, eqT, h2]
  generalize a.key.toList = K1
  generalize b.key.toList = K2
  generalize a.term.key.toList = K3
  generalize b.term.key.toList = K4
  generalize a.other.key.toList = K5
  generalize b.other.key.toList = K6
  grind
end X
def isZeroF (l : LitD) : Bool := l.kind == 0 && sameF l .zero
namespace X
theorem isZero_h (l : LitD) (hl : l.fits) : Has Tryz.prog 98 [.agg (litCs l)] (bA (isZeroF l)) noTok := by
  refine fnX mixed ⟨[0, 1, 2], [1], [], [], []⟩ Tryz.func98 rfl rfl rfl (by kernel_rfl) rfl ?_
  simp [litCs, strsA, intsA]
  refine .inl (callG_of (fun _ => same_h l .zero hl) (by simp) (by simp) ?_)
  simp [isZeroF] <;> rfl
end X
end Go.Proofs.YtldnkeackphilaaGreatDoor
