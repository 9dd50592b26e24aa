/- Scopes in a checked tree: a part is the kid of one part alone; its scope is that of what it stands in. -/
import Derived.Test.YtldnkeackphilaaGreatDoorNs25
import Derived.Test.YtldnkeackphilaaGreatDoorNs19
import Derived.Test.YtldnkeackphilaaGreatDoorNs18
import Derived.Test.YtldnkeackphilaaGreatDoorNs17
set_option linter.unusedSimpArgs false
set_option linter.unusedVariables false
namespace Go.Proofs.YtldnkeackphilaaGreatDoor

theorem shapeGo_from (ps : List Part) : ∀ (l : List Part) (i : Nat) (free f : List Int), shapeGo ps l i free = .inr f → ∀ (j : Nat) p, l[j]? = some p → ∀ k ∈ p.kids, k ∈ free ∨ (i : Int) ≤ k
  | [], _, _, _, _ => fun j p hj => by simp at hj
  | q :: r, i, free, f, h => fun j p hj k hk => by
    rw [shapeGo] at h
    split at h
    · next hok =>
      simp only [partOk, Bool.and_eq_true, decide_eq_true_eq] at hok
      obtain ⟨⟨⟨h1, h2⟩, h3⟩, h4⟩ := hok
      match j with
      | 0 =>
        cases hj
        rw [h3] at hk
        exact .inl (List.mem_of_mem_drop hk)
      | j + 1 =>
        rcases shapeGo_from ps r (i + 1) _ f h j p (by simpa using hj) k hk with h5 | h5
        · rcases List.mem_append.1 h5 with h5 | h5
          · exact .inl (List.mem_of_mem_take h5)
          · simp at h5; exact .inr (by omega)
        · exact .inr (by omega)
    · cases h
theorem nodup_drop_take {l : List Int} (h : l.Nodup) (n : Nat) {k : Int} (hk : k ∈ l.drop n) : k ∉ l.take n := by
  rw [← List.take_append_drop n l, List.nodup_append] at h
  exact fun hk' => h.2.2 k hk' k hk rfl
theorem shapeGo_uniq (ps : List Part) : ∀ (l : List Part) (i : Nat) (free f : List Int), shapeGo ps l i free = .inr f → free.Nodup → (∀ x ∈ free, 0 ≤ x ∧ x < (i : Int)) →
    ∀ (a b : Nat) p q, l[a]? = some p → l[b]? = some q → a < b → ∀ k ∈ p.kids, k ∉ q.kids
  | [], _, _, _, _, _, _ => fun a b p q ha => by simp at ha
  | x :: r, i, free, f, h, hn, hf => fun a b p q ha hb hab k hk => by
    rw [shapeGo] at h
    split at h
    · next hok =>
      simp only [partOk, Bool.and_eq_true, decide_eq_true_eq] at hok
      obtain ⟨⟨⟨h1, h2⟩, h3⟩, h4⟩ := hok
      have hn' : (free.take (free.length - x.kids.length) ++ [(i : Int)]).Nodup := by
        rw [List.nodup_append]
        refine ⟨hn.sublist (List.take_sublist _ _), by simp, fun y hy z hz e => ?_⟩
        simp at hz
        have := hf y (List.mem_of_mem_take hy)
        omega
      have hf' : ∀ y ∈ free.take (free.length - x.kids.length) ++ [(i : Int)], 0 ≤ y ∧ y < ((i + 1 : Nat) : Int) := fun y hy => by
        rcases List.mem_append.1 hy with hy | hy
        · have := hf y (List.mem_of_mem_take hy); omega
        · simp at hy; omega
      match b, hab with
      | b + 1, hab =>
        have hb' : r[b]? = some q := by simpa using hb
        match a with
        | 0 =>
          cases ha
          intro hkq
          have hkf : k ∈ free.drop (free.length - x.kids.length) := by rw [← h3]; exact hk
          have hki := hf k (List.mem_of_mem_drop hkf)
          rcases shapeGo_from ps r (i + 1) _ f h b q hb' k hkq with h5 | h5
          · rcases List.mem_append.1 h5 with h5 | h5
            · exact nodup_drop_take hn _ hkf h5
            · simp at h5; omega
          · omega
        | a + 1 => exact shapeGo_uniq ps r (i + 1) _ f h hn' hf' a b p q (by simpa using ha) hb' (by omega) k hk
    · cases h
theorem one_parent {ps : List Part} (hv : validF ps = none) {i j : Nat} {p q : Part} (hp : ps[i]? = some p) (hq : ps[j]? = some q) {k : Int} (h1 : k ∈ p.kids) (h2 : k ∈ q.kids) : i = j := by
  have hs := shape_of_valid hv
  unfold shapeF at hs
  split at hs
  · cases hs
  split at hs
  · cases hs
  split at hs
  · cases hs
  next f hf =>
  have hu := shapeGo_uniq ps ps 0 [] f hf (by simp) (by simp)
  rcases Nat.lt_trichotomy i j with h | h | h
  · exact absurd h2 (hu i j p q hp hq h k h1)
  · exact h
  · exact absurd h1 (hu j i q p hq hp h k h2)
theorem scopeKids_not (below : Int) (i : Nat) : ∀ (kids : List Int) (out : List Int), (∀ k ∈ kids, 0 ≤ k) → (i : Int) ∉ kids → (scopeKids below kids out)[i]? = out[i]?
  | [], out, _, _ => rfl
  | k :: r, out, h, hi => by
    have h1 := h k (by simp)
    have h2 : (i : Int) ≠ k := fun e => hi (by simp [e])
    have : scopeKids below (k :: r) out = scopeKids below r (out.set k.toNat below) := rfl
    rw [this, scopeKids_not below i r _ (fun x hx => h x (by simp [hx])) (fun hx => hi (by simp [hx])), List.getElem?_set_ne (by omega)]
theorem scopeKids_hit (below : Int) (i : Nat) : ∀ (kids : List Int) (out : List Int), (∀ k ∈ kids, 0 ≤ k) → (i : Int) ∈ kids → i < out.length → (scopeKids below kids out)[i]? = some below
  | k :: r, out, h, hi, hl => by
    have e : scopeKids below (k :: r) out = scopeKids below r (out.set k.toNat below) := rfl
    rw [e]
    by_cases hr : (i : Int) ∈ r
    · exact scopeKids_hit below i r _ (fun x hx => h x (by simp [hx])) hr (by simpa using hl)
    · rw [scopeKids_not below i r _ (fun x hx => h x (by simp [hx])) hr]
      have : k = i := by rcases List.mem_cons.1 hi with h' | h'; exact h'.symm; exact absurd h' hr
      subst this
      simp [hl]
set_option linter.unusedSectionVars false
section
variable {ps : List Part} (hw : WF ps)
include hw
theorem step_len (out : List Int) (i : Nat) : (scopeStep ps out i).length = out.length := by
  unfold scopeStep
  split
  · rfl
  · exact scopeKids_len _ _ _
theorem fold_len : ∀ (l : List Nat) (out : List Int), (l.foldr (fun i o => scopeStep ps o i) out).length = out.length
  | [], _ => rfl
  | i :: l, out => by rw [List.foldr_cons, step_len hw, fold_len l]
theorem step_not (out : List Int) (i k : Nat) (h : ∀ p, ps[i]? = some p → (k : Int) ∉ p.kids) : (scopeStep ps out i)[k]? = out[k]? := by
  unfold scopeStep
  split
  · rfl
  · next p hp => exact scopeKids_not _ _ _ _ (fun x hx => (hw.kids i p hp x hx).1) (h p hp)
theorem fold_not (k : Nat) : ∀ (l : List Nat) (out : List Int), (∀ i ∈ l, ∀ p, ps[i]? = some p → (k : Int) ∉ p.kids) → (l.foldr (fun i o => scopeStep ps o i) out)[k]? = out[k]?
  | [], _, _ => rfl
  | i :: l, out, h => by
    rw [List.foldr_cons, step_not hw _ i k (h i (by simp)), fold_not k l out fun j hj => h j (by simp [hj])]
end
def scopeAt (ps : List Part) (scope : Int) (i : Nat) : Int := (scopesF ps scope).getD i 0
theorem scope_kid {ps : List Part} (hv : validF ps = none) (scope : Int) {i : Nat} {p : Part} (hp : ps[i]? = some p) {k : Nat} (hk : (k : Int) ∈ p.kids) : scopeAt ps scope k = if selK p.kind then 3 else scopeAt ps scope i := by
  have hw := wf_of_shape (shape_of_valid hv)
  have hil := (List.getElem?_eq_some_iff.1 hp).1
  have hki := hw.kids i p hp k hk
  obtain ⟨init, hinit⟩ : ∃ x, x = (List.replicate ps.length (0 : Int)).set (ps.length - 1) scope := ⟨_, rfl⟩
  have hlen : init.length = ps.length := by rw [hinit]; simp
  have e : scopesF ps scope = (List.range ps.length).foldr (fun i o => scopeStep ps o i) init := by
    unfold scopesF
    rw [List.foldl_reverse, hinit]
  obtain ⟨A, hA⟩ : ∃ A, A = (List.range' (i + 1) (ps.length - (i + 1))).foldr (fun i o => scopeStep ps o i) init := ⟨_, rfl⟩
  have hsplit : List.range ps.length = List.range' 0 i ++ (i :: List.range' (i + 1) (ps.length - (i + 1))) := by
    rw [List.range_eq_range', show ps.length = i + (1 + (ps.length - (i + 1))) from by omega, ← List.range'_append_1, Nat.zero_add]
    congr 1
    rw [Nat.add_comm 1, List.range'_succ]
    congr 2
    omega
  have e2 : scopesF ps scope = (List.range' 0 i).foldr (fun i o => scopeStep ps o i) (scopeStep ps A i) := by rw [e, hsplit, List.foldr_append, List.foldr_cons, hA]
  have hAl : A.length = ps.length := by rw [hA, fold_len hw, hlen]
  have low : ∀ j ∈ List.range' 0 i, j < i := fun j hj => by have := List.mem_range'_1.1 hj; omega
  have h1 : (scopesF ps scope)[i]? = A[i]? := by
    rw [e2, fold_not hw i _ _ fun j hj q hq hm => by have := hw.kids j q hq _ hm; have := low j hj; omega]
    exact step_not hw A i i fun q hq hm => by have := hw.kids i q hq _ hm; omega
  have h2 : (scopesF ps scope)[k]? = (scopeStep ps A i)[k]? := by
    rw [e2, fold_not hw k _ _ fun j hj q hq hm => by have := one_parent hv hp hq hk hm; have := low j hj; omega]
  have h3 : (scopeStep ps A i)[k]? = some (if selK p.kind then 3 else A.getD i 0) := by
    unfold scopeStep
    rw [hp]
    exact scopeKids_hit _ k _ _ (fun x hx => (hw.kids i p hp x hx).1) hk (by omega)
  unfold scopeAt
  rw [List.getD_eq_getElem?_getD, List.getD_eq_getElem?_getD, h2, h3, h1]
  rw [List.getD_eq_getElem?_getD]
  rfl
end Go.Proofs.YtldnkeackphilaaGreatDoor
/- What cond makes is in normal form, in plain Lean; how it is written. -/
namespace Go.Proofs.YtldnkeackphilaaGreatDoor

inductive GoodT : Bool → Tr → Prop
  | mk (b : Bool) (k : Int) (neg : Bool) (l : LitD) (kids : List Tr) (sel : Option Tr) (h1 : neg = true → k = 5) (h2 : l.kind = 2 → l.rel = 4 ∨ l.rel = 6) (h3 : l.kind = 3 → l.rel ≠ 2) (h4 : (l.kind = 7 ∨ l.term.kind = 6) ↔ sel.isSome = true)
      (h5 : ∀ t ∈ kids, t.kind ≠ 1 ∧ t.kind ≠ 2) (h6 : k = 1 ∨ k = 2 → kids = [] ∧ sel = none) (h7 : ∀ t ∈ kids, GoodT b t) (h8 : ∀ u, sel = some u → b = true) (h9 : ∀ u, sel = some u → GoodT false u) : GoodT b (.mk k neg l kids sel)
theorem good_leaf (b : Bool) (k : Int) : GoodT b (.leaf k) :=
  .mk b k false .zero [] none (by simp) (by simp [LitD.zero]) (by simp [LitD.zero]) (by simp [LitD.zero, TermD.zero]) (by simp) (by simp) (by simp) (by simp) (by simp)
theorem good_truth (b : Bool) (c : Bool) (s : Int) : GoodT b (truthF c s) := by unfold truthF; split <;> exact good_leaf _ _
theorem good_lit (b : Bool) (l : LitD) (s : Int) (sel : Option Tr) (h2 : l.kind = 2 → l.rel = 4 ∨ l.rel = 6) (h3 : l.kind = 3 → l.rel ≠ 2) (h4 : (l.kind = 7 ∨ l.term.kind = 6) ↔ sel.isSome = true) (h8 : ∀ u, sel = some u → b = true ∧ GoodT false u) : GoodT b (.lit l s sel) :=
  .mk b 5 _ l [] sel (fun _ => rfl) h2 h3 h4 (by simp) (by omega) (by simp) (fun u h => (h8 u h).1) (fun u h => (h8 u h).2)
theorem good_join (b : Bool) (kind : Int) (hk : kind = 3 ∨ kind = 4) (kids : List Tr) (h : ∀ t ∈ kids, GoodT b t) : GoodT b (joinF kind kids) := by
  unfold joinF
  dsimp only
  have hwd : ((if kind = 4 then (1 : Int) else 2) = 1 ∧ (if kind = 4 then (2 : Int) else 1) = 2) ∨ ((if kind = 4 then (1 : Int) else 2) = 2 ∧ (if kind = 4 then (2 : Int) else 1) = 1) := by rcases hk with rfl | rfl <;> simp
  generalize (if kind = 4 then (1 : Int) else 2) = win at *
  generalize (if kind = 4 then (2 : Int) else 1) = drop at *
  split
  · exact good_leaf _ _
  · next hw =>
    have hf : ∀ t ∈ kids.filter (fun t => decide (t.kind ≠ drop)), GoodT b t ∧ t.kind ≠ 1 ∧ t.kind ≠ 2 := fun t ht => by
      obtain ⟨h1, h2⟩ := List.mem_filter.1 ht
      refine ⟨h t h1, ?_⟩
      have h3 : ¬ t.kind = win := fun e => hw (List.any_eq_true.2 ⟨t, h1, by simpa using e⟩)
      have h2 : ¬ t.kind = drop := by simpa using h2
      omega
    generalize kids.filter (fun t => decide (t.kind ≠ drop)) = l at hf ⊢
    split
    · exact good_leaf _ _
    · next hd => exact (hf _ (by simp)).1
    · exact .mk b kind false .zero l none (by simp) (by simp [LitD.zero]) (by simp [LitD.zero]) (by simp [LitD.zero, TermD.zero]) (fun t ht => (hf t ht).2) (by omega) (fun t ht => (hf t ht).1) (by simp) (by simp)
def GoodO (b : Bool) (x : OpdD) : Prop := (x.term.kind = 6 ↔ x.sel.isSome = true) ∧ ∀ u, x.sel = some u → b = true ∧ GoodT false u
theorem good_against (b : Bool) (t c : OpdD) (cmp s : Int) (hc : 1 ≤ cmp ∧ cmp ≤ 6 ∧ cmp ≠ 2) (h : GoodO b t) : GoodT b (againstF t c cmp s) := by
  unfold againstF
  have e : (againstL t c cmp).term = t.term ∧ (againstL t c cmp).kind ≠ 7 ∧ (againstL t c cmp).kind ≠ 3 ∧ ((againstL t c cmp).kind = 2 → (againstL t c cmp).rel = 4 ∨ (againstL t c cmp).rel = 6) := by
    unfold againstL
    split
    · split <;> simp
    · split
      · simp
      · split
        · simp
        · split
          · simp
          · split
            · simp
            · omega
  refine good_lit b _ s _ e.2.2.2 (fun h => absurd h e.2.2.1) ?_ h.2
  rw [e.1]
  rw [← h.1]
  exact ⟨fun h => h.resolve_left e.2.1, .inr⟩
theorem good_compared (b : Bool) (x y : OpdD) (n s : Int) (hn : 1 ≤ n ∧ n ≤ 6) (hx : GoodO b x) (hy : GoodO b y) : GoodT b (comparedX x y n s) := by
  unfold comparedX
  dsimp only
  have hc : 1 ≤ (if n = 2 then 1 else n) ∧ (if n = 2 then 1 else n) ≤ 6 ∧ (if n = 2 then 1 else n) ≠ 2 := by split <;> omega
  generalize (if n = 2 then 1 else n) = cmp at *
  generalize (if n = 2 then 1 - s else s) = s'
  have ht : 1 ≤ turnF cmp ∧ turnF cmp ≤ 6 ∧ turnF cmp ≠ 2 := by
    unfold turnF
    repeat' split
    all_goals omega
  split
  · exact good_truth _ _ _
  split
  · exact good_truth _ _ _
  split
  · exact good_against b y x _ _ ht hy
  split
  · exact good_against b x y _ _ hc hx
  split
  · refine good_lit b _ s' _ (by simp) (fun _ => ht.2.2) ?_ hy.2
    simpa using hy.1
  · refine good_lit b _ s' _ (by simp) (fun _ => hc.2.2) ?_ hx.2
    simpa using hx.1
theorem good_member (b : Bool) (x : OpdD) (es : List OpdD) (s : Int) (hx : GoodO b x) : GoodT b (memberX x es s) := by
  unfold memberX
  split
  · exact good_truth _ _ _
  split
  · exact good_truth _ _ _
  · refine good_lit b _ s _ (by simp) (by simp) ?_ hx.2
    simpa using hx.1
set_option linter.unusedSectionVars false
section
variable {ps : List Part} {scope : Int} {ts : List (Int × Int)} (ht : Typed ps scope ts)
include ht
def selB (ps : List Part) (scope : Int) (i : Nat) : Bool := decide (scopeAt ps scope i = 2)
theorem sel_scope {i : Nat} {p : Part} (hp : ps[i]? = some p) (hk : p.kind = 8 ∨ p.kind = 9 ∨ p.kind = 20) : scopeAt ps scope i = 2 := by
  obtain ⟨t, h1, h2⟩ := ht.each i p hp
  have hs : selectorF (scopesF ps scope) (ts.take i) i p = none := by
    have orE : ∀ {f : Option (Int × Int)} {u : Int × Int}, orElse f u = .inr t → f = none := fun {f u} h => by
      unfold orElse at h
      split at h
      · cases h
      · rfl
    have hne : ¬(p.kind = 1 ∨ p.kind = 2) ∧ ¬(p.kind = 3 ∨ p.kind = 4 ∨ p.kind = 5) ∧ ¬(p.kind = 6 ∨ p.kind = 7) := by omega
    rw [typeF, if_neg hne.1, if_neg hne.2.1, if_neg hne.2.2] at h2
    by_cases h89 : p.kind = 8 ∨ p.kind = 9
    · rw [if_pos h89] at h2; exact orE h2
    · rw [if_neg h89, if_pos (by omega)] at h2; exact orE h2
  unfold selectorF at hs
  split at hs
  · cases hs
  · next h => simpa [scopeAt] using h
theorem kid_scope {i : Nat} {p : Part} (hp : ps[i]? = some p) {k : Nat} (hk : (k : Int) ∈ p.kids) (hs : ¬(p.kind = 8 ∨ p.kind = 9 ∨ p.kind = 20)) : selB ps scope k = selB ps scope i := by
  unfold selB
  rw [scope_kid ht.valid scope hp hk]
  simp [selK, hs]
theorem sel_kid {i : Nat} {p : Part} (hp : ps[i]? = some p) {k : Nat} (hk : (k : Int) ∈ p.kids) (hs : p.kind = 8 ∨ p.kind = 9 ∨ p.kind = 20) : selB ps scope k = false := by
  unfold selB
  rw [scope_kid ht.valid scope hp hk]
  simp [selK, hs]
variable (c : Int → Int → Tr) (hc : ∀ (j : Nat) p s, ps[j]? = some p → 1 ≤ p.kind ∧ p.kind ≤ 10 → GoodT (selB ps scope j) (c j s))
include hc
theorem good_kid {i : Nat} {p : Part} (hp : ps[i]? = some p) (h : p.kind = 3 ∨ p.kind = 4 ∨ p.kind = 5 ∨ p.kind = 8 ∨ p.kind = 9 ∨ p.kind = 20) {k : Int} (hk : k ∈ p.kids) (s : Int) : ∃ j : Nat, k = j ∧ GoodT (selB ps scope j) (c k s) := by
  have hw := wf_of_shape (shape_of_valid ht.valid)
  have h1 := hw.kids i p hp k hk
  have h2 := (List.getElem?_eq_some_iff.1 hp).1
  obtain ⟨j, rfl⟩ : ∃ j : Nat, k = j := ⟨k.toNat, by omega⟩
  have hq : ps[j]? = some ps[j] := List.getElem?_eq_getElem (by omega)
  have h3 := hw.kinds i p hp j hk
  rw [kindAt_nat ps j _ hq] at h3
  have h4 : isCondF ps[j].kind = true := by
    unfold kidFitsF at h3
    rwa [if_pos h] at h3
  exact ⟨j, rfl, hc j _ s hq (by simpa [isCondF] using h4)⟩
theorem kids_one {i : Nat} {p : Part} (hp : ps[i]? = some p) (h : p.kind = 3 ∨ p.kind = 8 ∨ p.kind = 9 ∨ p.kind = 19 ∨ p.kind = 20) : ∃ k, p.kids = [k] := by
  have hw := wf_of_shape (shape_of_valid ht.valid)
  have hfit := hw.fits i p hp
  have hcnt : kidCountF p.kind p.kids.length = true := by simp only [partFitsF, Bool.and_eq_true, decide_eq_true_eq] at hfit; exact hfit.2
  have h1 : (p.kids.length : Int) = 1 := by rcases h with h | h | h | h | h <;> simpa [kidCountF, h] using hcnt
  replace h1 : p.kids.length = 1 := by omega
  match hl : p.kids, h1 with
  | [a], _ => exact ⟨a, rfl⟩
theorem good_opd {i : Nat} {p : Part} (hp : ps[i]? = some p) (h67 : p.kind = 6 ∨ p.kind = 7) {k : Nat} (hk : (k : Int) ∈ p.kids) : GoodO (selB ps scope i) (opdF c ps k) := by
  have hw := wf_of_shape (shape_of_valid ht.valid)
  have h1 := hw.kids i p hp k hk
  have h2 := (List.getElem?_eq_some_iff.1 hp).1
  have hq : ps[k]? = some ps[k] := List.getElem?_eq_getElem (by omega)
  rw [← kid_scope ht hp hk (by omega)]
  unfold opdF
  rw [partAt_nat hq]
  have hn : ∀ x : OpdD, x.sel = none → x.term.kind ≠ 6 → GoodO (selB ps scope k) x := fun x h1 h2 => ⟨by simp [h1, h2], fun u hu => by rw [h1] at hu; cases hu⟩
  unfold opdOf
  dsimp only
  split
  · exact hn _ rfl (by simp [TermD.zero])
  split
  · exact hn _ rfl (by simp [TermD.zero])
  split
  · exact hn _ rfl (by simp)
  split
  · exact hn _ rfl (by simp)
  split
  · exact hn _ rfl (by simp)
  split
  · next h20 =>
    obtain ⟨a, ha⟩ := kids_one ht c hc hq (by omega)
    obtain ⟨j, hj, hg⟩ := good_kid ht c hc hq (by omega) (k := a) (by simp [ha]) 0
    subst hj
    rw [sel_kid ht hq (k := j) (by simp [ha]) (by omega)] at hg
    refine ⟨by simp, fun u hu => ⟨by simp [selB, sel_scope ht hq (by omega)], ?_⟩⟩
    simp only [ha, List.headD_cons, Option.some.injEq] at hu
    rw [← hu]
    exact hg
  · split
    · exact hn _ rfl (by simp)
    · split
      · exact hn _ rfl (by simp [TermD.zero])
      · exact hn _ rfl (by simp [TermD.zero])
theorem good_near {i : Nat} {p : Part} (hp : ps[i]? = some p) (hk : p.kind = 8 ∨ p.kind = 9) (s : Int) : GoodT (selB ps scope i) (nearF c p s) := by
  obtain ⟨a, ha⟩ := kids_one ht c hc hp (by omega)
  obtain ⟨j, hj, hg⟩ := good_kid ht c hc hp (by omega) (k := a) (by simp [ha]) 0
  subst hj
  rw [sel_kid ht hp (k := j) (by simp [ha]) (by omega)] at hg
  have e : p.kids.headD 0 = (j : Int) := by rw [ha]; rfl
  unfold nearF
  dsimp only
  rw [e]
  by_cases h2 : (c j 0).kind = 2
  · rw [if_pos h2]
    exact good_truth _ _ _
  · rw [if_neg h2]
    refine good_lit _ _ s _ (by simp) (by simp) (by simp) fun u hu => ⟨by simp [selB, sel_scope ht hp (by omega)], ?_⟩
    cases hu
    exact hg
theorem key_opd {i : Nat} {p : Part} (hp : ps[i]? = some p) (h7 : p.kind = 7) {a b : Nat} (hab : p.kids = [(a : Int), (b : Int)]) {q : Part} (hq : ps[b]? = some q) (hk : q.kind = 16 ∨ q.kind = 17) : (keyTermF (opdF c ps a)).kind ≠ 6 := by
  have hw := wf_of_shape (shape_of_valid ht.valid)
  have hil := (List.getElem?_eq_some_iff.1 hp).1
  have ha := hw.kids i p hp a (by simp [hab])
  have hb := hw.kids i p hp b (by simp [hab])
  have hpa : ps[a]? = some ps[a] := List.getElem?_eq_getElem (by omega)
  obtain ⟨t, -, h2⟩ := ht.each i p hp
  obtain ⟨ta, ha1, ha2⟩ := ht.each a _ hpa
  obtain ⟨tb, hb1, hb2⟩ := ht.each b _ hq
  have hs : sidesF (ts.take i) i p = none := by
    have hne : ¬(p.kind = 1 ∨ p.kind = 2) ∧ ¬(p.kind = 3 ∨ p.kind = 4 ∨ p.kind = 5) := by omega
    rw [typeF, if_neg hne.1, if_neg hne.2, if_pos (by omega)] at h2
    unfold orElse at h2
    split at h2
    · cases h2
    · assumption
  simp only [sidesF, hab, List.getD_cons_zero, List.getD_cons_succ, sortAt_take ts ha.1 ha.2, sortAt_take ts hb.1 hb.2, sortAt_nat ha1, sortAt_nat hb1, h7] at hs
  have htb : tb.1 = 4 := by
    rw [typeF, if_neg (by omega), if_neg (by omega), if_neg (by omega), if_neg (by omega), if_neg (by omega), if_neg (by omega), if_neg (by omega), if_neg (by omega), if_neg (by omega)] at hb2
    unfold speaksF at hb2
    rw [if_neg (by omega)] at hb2
    by_cases hcnd : (if q.kind = 17 ∨ q.kind = 18 then q.num = 2 ∧ (scopesF ps scope).getD (b : Int).toNat 0 = 2 else q.num = 1 ∨ q.num = (scopesF ps scope).getD (b : Int).toNat 0)
    · rw [if_neg (by simpa using hcnd), if_neg (by omega), if_neg (by omega), if_neg (by omega)] at hb2
      cases hb2
      rfl
    · rw [if_pos hcnd] at hb2
      cases hb2
  have hta : ta.1 = 2 := by
    unfold sidesG at hs
    by_cases h1 : ta.1 ≠ 2 ∧ ta.1 ≠ 3
    · simp [h1] at hs
    · rw [if_neg h1] at hs
      by_cases h3 : ta.1 = 2
      · exact h3
      · simp [htb, h3] at hs
  have hka : ps[a].kind ≠ 20 ∧ ps[a].kind ≠ 18 ∧ ps[a].kind ≠ 19 := by
    rw [typeF] at ha2
    refine ⟨fun e => ?_, fun e => ?_, fun e => ?_⟩
    · simp only [e] at ha2
      simp [orElse] at ha2
      split at ha2
      · cases ha2
      · cases ha2; simp at hta
    · simp only [e] at ha2
      simp [speaksF, e] at ha2
      split at ha2
      · cases ha2
      · split at ha2
        · cases ha2
        · cases ha2; simp at hta
    · simp only [e] at ha2
      simp at ha2
      split at ha2
      · cases ha2
      · cases ha2; simp at hta
  unfold keyTermF opdF
  rw [partAt_nat hpa]
  unfold opdOf
  dsimp only
  repeat' split
  all_goals simp_all [TermD.zero]
theorem good_step (i : Nat) (p : Part) (hp : ps[i]? = some p) (hk : 1 ≤ p.kind ∧ p.kind ≤ 10) (s : Int) : GoodT (selB ps scope i) (condStep c ps i s) := by
  have hw := wf_of_shape (shape_of_valid ht.valid)
  unfold condStep
  rw [partAt_nat hp]
  dsimp only
  split
  · exact good_truth _ _ _
  split
  · next h =>
    obtain ⟨a, ha⟩ := kids_one ht c hc hp (by omega)
    obtain ⟨j, hj, hg⟩ := good_kid ht c hc hp (by omega) (k := a) (by simp [ha]) (1 - s)
    subst hj
    rw [kid_scope ht hp (k := j) (by simp [ha]) (by omega)] at hg
    rw [ha]
    exact hg
  split
  · refine good_join _ _ (by split <;> simp) _ fun t htm => ?_
    obtain ⟨k, hkm, rfl⟩ := List.mem_map.1 htm
    obtain ⟨j, hj, hg⟩ := good_kid ht c hc hp (by omega) hkm s
    subst hj
    rwa [kid_scope ht hp (k := j) hkm (by omega)] at hg
  split
  · exact good_near ht c hc hp (by omega) s
  split
  · exact good_near ht c hc hp (by omega) (1 - s)
  split
  · exact good_lit _ _ _ _ (by simp) (by simp) (by simp [LitD.zero, TermD.zero]) (by simp)
  have two : ∃ a b : Nat, p.kids = [(a : Int), (b : Int)] ∧ b < ps.length := by
    have hfit := hw.fits i p hp
    have hcnt : kidCountF p.kind p.kids.length = true := by simp only [partFitsF, Bool.and_eq_true, decide_eq_true_eq] at hfit; exact hfit.2
    have h67 : p.kind = 6 ∨ p.kind = 7 := by omega
    have h1 : (p.kids.length : Int) = 2 := by rcases h67 with h | h <;> simpa [kidCountF, h] using hcnt
    replace h1 : p.kids.length = 2 := by omega
    have hkd := hw.kids i p hp
    have hil := (List.getElem?_eq_some_iff.1 hp).1
    match hl : p.kids, h1 with
    | [a, b], _ =>
      have h2 := hkd a (by simp [hl])
      have h3 := hkd b (by simp [hl])
      exact ⟨a.toNat, b.toNat, by rw [Int.toNat_of_nonneg h2.1, Int.toNat_of_nonneg h3.1], by omega⟩
  obtain ⟨a, b, hab, hbl⟩ := two
  have hx := good_opd ht c hc hp (by omega) (k := a) (by simp [hab])
  have hy := good_opd ht c hc hp (by omega) (k := b) (by simp [hab])
  split
  · next h6 =>
    have hfit := hw.fits i p hp
    have hnum : numFitsF p.kind p.num = true := by simp only [partFitsF, Bool.and_eq_true, decide_eq_true_eq] at hfit; exact hfit.1.2
    unfold comparedF
    rw [hab]
    exact good_compared _ _ _ _ _ (by simpa [numFitsF, h6] using hnum) hx hy
  · rw [hab]
    simp only [List.getD_cons_zero, List.getD_cons_succ]
    unfold memberF
    have hq : ps[b]? = some ps[b] := List.getElem?_eq_getElem hbl
    rw [partAt_nat hq]
    dsimp only
    split
    · next h16 => exact good_lit _ _ _ _ (by simp) (by simp) (by simpa using key_opd ht c hc hp (by omega) hab hq (.inl h16)) (by simp)
    split
    · next h17 => exact good_lit _ _ _ _ (by simp) (by simp) (by simpa using key_opd ht c hc hp (by omega) hab hq (.inr h17)) (by simp)
    · exact good_member _ _ _ _ hx
end
theorem good_cond {ps : List Part} {scope : Int} {ts : List (Int × Int)} (ht : Typed ps scope ts) : ∀ (f : Nat) (i : Nat) (p : Part) (s : Int), ps[i]? = some p → 1 ≤ p.kind ∧ p.kind ≤ 10 → GoodT (selB ps scope i) (condF ps f i s)
  | 0, _, _, _, _, _ => by rw [condF]; exact good_leaf _ _
  | f + 1, i, p, s, hp, h => by
    rw [condF]
    exact good_step ht (condF ps f) (fun j q s hq hj => good_cond ht f j q s hq hj) i p hp h s
end Go.Proofs.YtldnkeackphilaaGreatDoor
/- berthref16.Valid's functions: terms. -/
namespace Go.Proofs.YtldnkeackphilaaGreatDoor
open Go.RowKit

theorem Tryz.mixed : Tryz.prog.follows .mixedOrders = true := by kernel_rfl
def sideF (s : Int) (pods : Bool) : Bool := s == 1 || (s == 3 && pods) || (s == 2 && !pods)
def textF (t : TermD) : Bool := t.kind == 2 || t.kind == 3
def numberF (t : TermD) : Bool := decide (t.kind ≥ 4) && decide (t.kind ≤ 6)
def ofPodF (t : TermD) : Bool := t.kind == 1 || t.side == 1
def termF (t : TermD) (pods : Bool) (sels : Int) : Bool :=
  if t.key.size > 127 then false
  else if t.kind = 1 then t.side == 0 && t.sel == 0
  else if t.kind = 2 ∨ t.kind = 4 then sideF t.side pods && t.sel == 0
  else if t.kind = 3 then sideF t.side pods && t.sel == 0 && t.key.toList == []
  else if t.kind = 5 then !pods && t.side == 0 && t.sel == 0
  else if t.kind = 6 then !pods && t.side == 0 && decide (t.sel ≥ 0) && decide (t.sel < sels)
  else false
end Go.Proofs.YtldnkeackphilaaGreatDoor
/- berthref16.Valid's functions: rows. -/
namespace Go.Proofs.YtldnkeackphilaaGreatDoor
open Go.RowKit

def leqS (x y : ByteArray) : Bool := Op.bytesLess x.toList y.toList || x.toList == y.toList
def textAt (l : List ByteArray) (i : Nat) : Bool := !decide ((l.getD i noText).size > 127) && !(decide (0 < i) && leqS (l.getD i noText) (l.getD (i - 1) noText))
def numAt (l : List Int) (i : Nat) : Bool := !(decide (l.getD i 0 < -999999999999999999) || decide (l.getD i 0 > 999999999999999999)) && !(decide (0 < i) && decide (l.getD i 0 ≤ l.getD (i - 1) 0))
def risingNumsF (l : List Int) : Bool := (List.range l.length).all (numAt l)
def risingTextsF (l : List ByteArray) : Bool := (List.range l.length).all (textAt l)
theorem all_upto {n : Nat} {f : Nat → Bool} : ((List.range (n + 1)).all f) = ((List.range n).all f && f n) := by
  simp [List.range_succ]
theorem all_false {n i : Nat} {f : Nat → Bool} (hi : i < n) (h : f i = false) : (List.range n).all f = false := by
  rw [Bool.eq_false_iff]
  intro ha
  rw [List.all_eq_true] at ha
  have := ha i (List.mem_range.2 hi)
  rw [h] at this
  cases this
theorem ex_at {α : Type} {l : List α} {i : Nat} (h : i < l.length) : ∃ x, l[i]? = some x := ⟨_, List.getElem?_eq_getElem h⟩
def Upto (f : Nat → Bool) (i : Nat) : Prop := (List.range i).all f = true
theorem Upto.zero (f : Nat → Bool) : Upto f 0 := rfl
theorem Upto.next {f : Nat → Bool} {i : Nat} (hok : Upto f i) (hf : f i = true) : Upto f (i + 1) := by
  unfold Upto at *
  rw [all_upto, hok, hf]
  rfl
theorem wrapN {n : Nat} (h : n ≤ 35184372088064) : IntKind.i64.wrap ((n : Int) + 1) = (n : Int) + 1 := wrap64 (by omega) (by omega)
theorem wrapP {n : Nat} (h : n ≤ 35184372088064) : IntKind.i64.wrap ((n : Int) - 1) = (n : Int) - 1 := wrap64 (by omega) (by omega)
end Go.Proofs.YtldnkeackphilaaGreatDoor
/- berthref16.Valid's functions: literals. -/
namespace Go.Proofs.YtldnkeackphilaaGreatDoor
open Go.RowKit

def eqT (a b : TermD) : Bool := a.kind == b.kind && (a.side == b.side && (a.key.toList == b.key.toList && a.sel == b.sel))
def restF (l : LitD) (sets rel num other of_ key : Bool) : Bool :=
  !(!sets && (decide (l.texts.length > 0) || decide (l.nums.length > 0))) &&
  !((!rel && l.rel != 0) || (!num && l.num != 0) || (!other && !(eqT l.other .zero))) &&
  ((of_ || l.of_ == 0) && (key || (l.key.toList == [] && l.sel == 0)))
theorem noText_l : noText.toList = [] := by simp [noText]
def LitD.fits (l : LitD) : Prop := l.texts.length ≤ 35184372088064 ∧ l.nums.length ≤ 35184372088064
def inF (l : LitD) : Bool := if textF l.term then l.nums.length == 0 && risingTextsF l.texts else numberF l.term && l.texts.length == 0 && risingNumsF l.nums
def relF (l : LitD) : Bool := numberF l.term && (if l.rel = 4 then decide (l.num ≥ -1000000000000000000) && decide (l.num ≤ 999999999999999999) else l.rel == 6 && decide (l.num ≥ -999999999999999999) && decide (l.num ≤ 1000000000000000000))
def podF (l : LitD) : Bool := l.other.side == 1 && (if textF l.term then l.rel == 1 && textF l.other else numberF l.term && l.other.kind == 4 && decide (l.rel ≥ 1) && decide (l.rel ≤ 6) && l.rel != 2)
def zeroF (l : LitD) : Bool := l.kind == 0 && eqT l.term .zero && restF l false false false false false false
end Go.Proofs.YtldnkeackphilaaGreatDoor
/- berthref16.Valid's functions: Lit, measures. -/
namespace Go.Proofs.YtldnkeackphilaaGreatDoor
open Go.RowKit

def litF (l : LitD) (pods : Bool) (sels : Int) : Bool :=
  if l.key.size > 127 then false
  else if l.kind = 6 ∨ l.kind = 7 then
    !(pods || !(eqT l.term .zero) || !(restF l false false false false false true)) && (if l.kind = 6 then l.sel == 0 else decide (l.sel ≥ 0) && decide (l.sel < sels))
  else termF l.term pods sels && (
    if l.kind = 1 then inF l && restF l true false false false false false
    else if l.kind = 2 then relF l && restF l false true true false false false
    else if l.kind = 3 then termF l.other pods sels && podF l && restF l false true false true false false
    else if l.kind = 4 then !(!(sideF l.of_ pods) || (l.term.kind != 1 && !textF l.term)) && (l.of_ == 1 || ofPodF l.term) && restF l false false false false true false
    else if l.kind = 5 then !pods && (l.term.kind == 1 || textF l.term) && ofPodF l.term && restF l false false false false false false
    else false)
end Go.Proofs.YtldnkeackphilaaGreatDoor
/- berthref16.Valid's functions: measures. -/
namespace Go.Proofs.YtldnkeackphilaaGreatDoor
open Go.RowKit

def PartD.fits (p : PartD) : Prop := p.lit.fits ∧ p.kids.length ≤ 35184372088064
structure FitsL (l : List PartD) : Prop where
  len : l.length ≤ 4398046511104
  each : ∀ p ∈ l, p.fits
def partWt (p : PartD) : Nat := 1 + p.lit.texts.length + p.lit.nums.length
def measF : List PartD → Nat → Nat
  | [], n => n
  | p :: l, n => if n ≤ 1000 then measF l (n + partWt p) else n
theorem drop_at {α : Type} {l : List α} {i : Nat} {x : α} (h : l[i]? = some x) : l.drop i = x :: l.drop (i + 1) := by
  obtain ⟨h1, h2⟩ := List.getElem?_eq_some_iff.1 h
  rw [List.drop_eq_getElem_cons h1, h2]
def measP : List (List PartD) → Nat → Nat
  | [], n => n
  | l :: ls, n => if n ≤ 1000 then measP ls (n + measF l 0) else n
def measureF (p : PlanD) : Nat := if measP p.sels (measF p.main 0) > 1000 then 1001 else measP p.sels (measF p.main 0)
structure FitsP (p : PlanD) : Prop where
  main : FitsL p.main
  len : p.sels.length ≤ 35184372088064
  each : ∀ l ∈ p.sels, FitsL l
end Go.Proofs.YtldnkeackphilaaGreatDoor
/- berthref16.Valid's functions: a list. -/
namespace Go.Proofs.YtldnkeackphilaaGreatDoor
open Go.RowKit

def stepOk (pods : Bool) (sels : Int) (free : List Int) (p : PartD) : Bool :=
  let joins := p.kind == 3 || p.kind == 4
  !(decide (p.kind < 1) || decide (p.kind > 5) || decide (p.kids.length > free.length) || (joins != decide (p.kids.length ≥ 2)) || (!joins && decide (p.kids.length > 0))) &&
  !(p.kind == 5 && !litF p.lit pods sels) && !(p.kind != 5 && (p.neg || !zeroF p.lit)) &&
  (p.kids == free.drop (free.length - p.kids.length))
def stepF (free : List Int) (i : Nat) (p : PartD) : List Int := free.take (free.length - p.kids.length) ++ [(i : Int)]
def freeF (pods : Bool) (sels : Int) : List PartD → Nat → List Int → Option (List Int)
  | [], _, free => some free
  | p :: l, i, free => if stepOk pods sels free p then freeF pods sels l (i + 1) (stepF free i p) else none
def listF (l : List PartD) (pods : Bool) (sels : Int) : Bool := match freeF pods sels l 0 [] with
  | some free => free.length == 1
  | none => false
end Go.Proofs.YtldnkeackphilaaGreatDoor
/- berthref16.Valid: whole. -/
namespace Go.Proofs.YtldnkeackphilaaGreatDoor
open Go.RowKit

def selAt (p : PlanD) (i : Nat) : Bool := listF (p.sels.getD i []) true 0
def forF (p : PlanD) (pods : Bool) : Bool := !(decide (measureF p > 1000) || (pods && decide (p.sels.length > 0))) && listF p.main pods p.sels.length && (List.range p.sels.length).all (selAt p)
def planOkF (p : PlanD) : Bool := forF p false || forF p true
end Go.Proofs.YtldnkeackphilaaGreatDoor
/- norm.Valid's functions: terms. -/
namespace Go.Proofs.YtldnkeackphilaaGreatDoor
open Go.RowKit

structure LookD where
  sels : Int
  node : Bool
def lookA (w : LookD) : AV := .ptr [iA w.sels, bA w.node]
def moverF (w : LookD) : Int := if w.node then 2 else 3
set_option maxRecDepth 8000 in
theorem mover_h (w : LookD) : Has Tryz.prog 197 [lookA w] (iA (moverF w)) noTok := by
  refine fnT Tryz.mixed [0, 1, 2, 6] [] [] Tryz.func197 rfl rfl rfl (by kernel_rfl) rfl ?_
  simp [lookA]
  all_goals grind [moverF]
def placeF (w : LookD) (sel : Int) : Bool := decide (sel ≥ 0) && decide (sel < w.sels)
theorem place_h (w : LookD) (sel : Int) : Has Tryz.prog 166 [lookA w, iA sel] (bA (placeF w sel)) noTok := by
  refine fnT Tryz.mixed [0, 1, 2, 3, 4] [] [] Tryz.func166 rfl rfl rfl (by kernel_rfl) rfl ?_
  simp [lookA, placeF]
theorem fitsText_h (s : ByteArray) : Has Tryz.prog 159 [sA s] (bA (decide (s.size ≤ 127))) noTok := by
  refine fnT Tryz.mixed [0, 1, 2] [] [] Tryz.func159 rfl rfl rfl (by kernel_rfl) rfl ?_
  simp
  all_goals grind
def fitsNumF (n : Int) : Bool := decide (n ≥ -999999999999999999) && decide (n ≤ 999999999999999999)
theorem fitsNum_h (n : Int) : Has Tryz.prog 162 [iA n] (bA (fitsNumF n)) noTok := by
  refine fnT Tryz.mixed [0, 1, 2] [] [] Tryz.func162 rfl rfl rfl (by kernel_rfl) rfl ?_
  simp [fitsNumF]
def plainTextF (t : TermD) : Bool := t.kind == 1 && t.side == 0 && t.sel == 0 && decide (t.key.size ≤ 127)
set_option maxRecDepth 8000 in
theorem plainText_h (t : TermD) : Has Tryz.prog 165 [.agg (termCs t)] (bA (plainTextF t)) noTok := by
  refine fnT Tryz.mixed [0, 1, 2] [] [] Tryz.func165 rfl rfl rfl (by kernel_rfl) rfl ?_
  simp [termCs]
  all_goals grind [plainTextF]
def textTermF (w : LookD) (t : TermD) : Bool := !(t.sel != 0 || (t.side != 1 && t.side != moverF w)) && ((t.kind == 2 && decide (t.key.size ≤ 127)) || (t.kind == 3 && t.key.toList == []))
set_option maxRecDepth 8000 in
theorem textTerm_h (w : LookD) (t : TermD) : Has Tryz.prog 157 [lookA w, .agg (termCs t)] (bA (textTermF w t)) noTok := by
  refine fnT Tryz.mixed [0, 1, 3, 4, 19] [] [(5, 3), (9, 3), (13, 3), (20, 3), (24, 3), (30, 3), (34, 3)] Tryz.func157 rfl rfl rfl (by kernel_rfl) rfl ?_
  simp [termCs, lookA]
  repeat' first
    | refine And.intro ?_ ?_
    | intro _
    | (refine callG_of (fun _ => mover_h w) rfl ?_; simp)
  all_goals grind [textTermF]
def numberTermF (w : LookD) (t : TermD) : Bool :=
  if t.key.size > 127 then false
  else if t.kind = 4 then t.sel == 0 && (t.side == 1 || t.side == moverF w)
  else if t.kind = 5 then w.node && t.sel == 0 && t.side == 0
  else if t.kind = 6 then w.node && placeF w t.sel && t.side == 0
  else false
set_option maxRecDepth 8000 in
theorem numberTerm_h (w : LookD) (t : TermD) : Has Tryz.prog 160 [lookA w, .agg (termCs t)] (bA (numberTermF w t)) noTok := by
  refine fnT Tryz.mixed [0, 1, 3, 4, 8, 10, 11, 28, 44] [] [(5, 3), (9, 3), (13, 3), (17, 3), (21, 3), (35, 3), (40, 3), (52, 3), (57, 3)] Tryz.func160 rfl rfl rfl (by kernel_rfl) rfl ?_
  simp [termCs, lookA]
  repeat' first
    | refine And.intro ?_ ?_
    | intro _
    | (refine callG_of (fun _ => mover_h w) rfl ?_; simp)
    | (refine callG_of (fun _ => place_h w _) rfl ?_; simp)
  all_goals grind [numberTermF]
def pairF (w : LookD) (l : LitD) : Bool :=
  if l.other.side ≠ 1 then false
  else if textTermF w l.term then l.rel == 1 && textTermF w l.other
  else if !numberTermF w l.term || l.other.kind != 4 || !numberTermF w l.other then false
  else l.rel == 1 || l.rel == 3 || l.rel == 4 || l.rel == 5 || l.rel == 6
set_option maxRecDepth 8000 in
set_option maxHeartbeats 1000000 in
theorem pair_h (w : LookD) (l : LitD) : Has Tryz.prog 163 [lookA w, .agg (litCs l)] (bA (pairF w l)) noTok := by
  refine fnT Tryz.mixed [0, 1, 3, 4, 8, 12, 39, 41, 42] [] [] Tryz.func163 rfl rfl rfl (by kernel_rfl) rfl ?_
  simp [litCs, strsA, intsA, lookA]
  repeat' first
    | refine And.intro ?_ ?_
    | intro _
    | (refine callW_of (textTerm_h w l.term) ?_; simp)
    | (refine callG_of (fun _ => textTerm_h w l.other) rfl ?_; simp)
    | (refine callW_of (numberTerm_h w l.term) ?_; simp)
    | (refine callG_of (fun _ => numberTerm_h w l.other) rfl ?_; simp)
  all_goals grind [pairF]
def keysF (w : LookD) (l : LitD) : Bool :=
  if l.of_ = 1 then plainTextF l.term || textTermF w l.term
  else if l.of_ = moverF w then plainTextF l.term || (l.term.side == 1 && textTermF w l.term)
  else false
set_option maxRecDepth 8000 in
set_option maxHeartbeats 1000000 in
theorem keys_h (w : LookD) (l : LitD) : Has Tryz.prog 164 [lookA w, .agg (litCs l)] (bA (keysF w l)) noTok := by
  refine fnT Tryz.mixed [0, 1, 3, 4, 6, 7, 18] [] [] Tryz.func164 rfl rfl rfl (by kernel_rfl) rfl ?_
  simp [litCs, strsA, intsA, lookA]
  repeat' first
    | refine And.intro ?_ ?_
    | intro _
    | (refine callW_of (plainText_h l.term) ?_; simp)
    | (refine callG_of (fun _ => textTerm_h w l.term) rfl ?_; simp)
    | (refine callW_of (mover_h w) ?_; simp)
  all_goals grind [keysF]
def sameF (a b : LitD) : Bool := a.kind == b.kind && eqT a.term b.term && a.rel == b.rel && a.num == b.num && (a.texts.length == 0 && a.nums.length == 0) && eqT a.other b.other && a.of_ == b.of_ && a.key.toList == b.key.toList && a.sel == b.sel
set_option maxRecDepth 8000 in
set_option maxHeartbeats 1000000 in
theorem same_h (a b : LitD) (ha : a.fits) : Has Tryz.prog 156 [.agg (litCs a), .agg (litCs b)] (bA (sameF a b)) noTok := by
  refine fnT Tryz.mixed [0, 1, 2, 3, 4] [] [] Tryz.func156 rfl rfl rfl (by kernel_rfl) rfl ?_
  have h1 : IntKind.i64.wrap ((a.texts.length : Int) + a.nums.length) = (a.texts.length : Int) + a.nums.length := wrap64 (by have := ha.1; have := ha.2; omega) (by have := ha.1; have := ha.2; omega)
  have h2 : decide ((a.texts.length : Int) + a.nums.length = 0) = (a.texts.length == 0 && a.nums.length == 0) := by
    cases a.texts <;> cases a.nums <;> simp <;> omega
  simp [litCs, strsA, intsA, h1]
  simp only [sameF, eqT, h2]
  generalize a.key.toList = K1
  generalize b.key.toList = K2
  generalize a.term.key.toList = K3
  generalize b.term.key.toList = K4
  generalize a.other.key.toList = K5
  generalize b.other.key.toList = K6
  grind
def isZeroF (l : LitD) : Bool := l.kind == 0 && sameF l .zero
set_option maxRecDepth 8000 in
theorem isZero_h (l : LitD) (hl : l.fits) : Has Tryz.prog 98 [.agg (litCs l)] (bA (isZeroF l)) noTok := by
  refine fnT Tryz.mixed [0, 1, 2] [] [] Tryz.func98 rfl rfl rfl (by kernel_rfl) rfl ?_
  simp [litCs, strsA, intsA]
  refine callG_of (fun _ => same_h l .zero hl) rfl ?_
  simp [isZeroF] <;> rfl
end Go.Proofs.YtldnkeackphilaaGreatDoor
/- norm.Valid's functions: rising rows, literals, parts. -/
namespace Go.Proofs.YtldnkeackphilaaGreatDoor
open Go.RowKit

def nTextAt (l : List ByteArray) (i : Nat) : Bool := decide ((l.getD i noText).size ≤ 127) && !(decide (0 < i) && !(Op.bytesLess (l.getD (i - 1) noText).toList (l.getD i noText).toList))
def nTextsF (l : List ByteArray) : Bool := (List.range l.length).all (nTextAt l)
set_option maxRecDepth 8000 in
theorem nTexts_h (l : List ByteArray) (hl : l.length ≤ 35184372088064) : Has Tryz.prog 158 [strsA l, .imm (.func (.func 159) #[] #[])] (bA (nTextsF l)) noTok := by
  refine fnT Tryz.mixed [0, 1, 4, 5, 6, 7, 8, 9, 10, 30] [] [] Tryz.func158 rfl rfl rfl (by kernel_rfl) rfl ?_
  simp [strsA]
  refine wF_loop [0, 1, 4, 7, 8, 9] (fun i : Nat => St.asc [(0, .sl (l.map fun s => [sA s]), [none]), (1, .imm (.func (.func 159) #[] #[]), []), (4, bA false, []), (7, .sl (l.map fun s => [sA s]), [none]), (8, iA l.length, []), (9, iA i, [])]) (fun i => i ≤ l.length ∧ Upto (nTextAt l) i) (fun i => l.length - i) 0 _ (by simp) (by simp [Upto.zero]) ?_
  rintro i ⟨hi, hok⟩
  by_cases h : i < l.length
  · have hx : l[i]? = some l[i] := List.getElem?_eq_getElem h
    obtain ⟨y, hy⟩ := ex_at (l := l) (i := i - 1) (by omega)
    generalize l[i] = x at *
    have hu : ((i : Int) - 1).toNat = i - 1 := by omega
    have ht : nTextAt l i = (decide (x.size ≤ 127) && !(decide (0 < i) && !(Op.bytesLess y.toList x.toList))) := by simp [nTextAt, hy, hx]
    simp [hx, hy, h, wrapN (Nat.le_trans hi hl), wrapP (Nat.le_trans hi hl), hu, -getElem?_pos]
    refine callW_of (fitsText_h x) ?_
    simp [hx, hy, h, wrapN (Nat.le_trans hi hl), wrapP (Nat.le_trans hi hl), hu, -getElem?_pos]
    and_intros
    · omega
    · intro hc
      exact all_false h (by rw [ht]; grind)
    · intro h1 h2
      exact ⟨i + 1, by simp, ⟨by omega, hok.next (by rw [ht]; grind)⟩, by omega⟩
  · have : i = l.length := by omega
    subst this
    simp
    exact hok
def nNumAt (l : List Int) (i : Nat) : Bool := fitsNumF (l.getD i 0) && !(decide (0 < i) && decide (l.getD (i - 1) 0 ≥ l.getD i 0))
def nNumsF (l : List Int) : Bool := (List.range l.length).all (nNumAt l)
set_option maxRecDepth 8000 in
theorem nNums_h (l : List Int) (hl : l.length ≤ 35184372088064) : Has Tryz.prog 161 [intsA l, .imm (.func (.func 162) #[] #[])] (bA (nNumsF l)) noTok := by
  refine fnT Tryz.mixed [0, 1, 4, 5, 6, 7, 8, 9, 10, 30] [] [] Tryz.func161 rfl rfl rfl (by kernel_rfl) rfl ?_
  simp [intsA]
  refine wF_loop [0, 1, 4, 7, 8, 9] (fun i : Nat => St.asc [(0, .sl (l.map fun s => [iA s]), [none]), (1, .imm (.func (.func 162) #[] #[]), []), (4, bA false, []), (7, .sl (l.map fun s => [iA s]), [none]), (8, iA l.length, []), (9, iA i, [])]) (fun i => i ≤ l.length ∧ Upto (nNumAt l) i) (fun i => l.length - i) 0 _ (by simp) (by simp [Upto.zero]) ?_
  rintro i ⟨hi, hok⟩
  by_cases h : i < l.length
  · have hx : l[i]? = some l[i] := List.getElem?_eq_getElem h
    obtain ⟨y, hy⟩ := ex_at (l := l) (i := i - 1) (by omega)
    generalize l[i] = x at *
    have hu : ((i : Int) - 1).toNat = i - 1 := by omega
    have ht : nNumAt l i = (fitsNumF x && !(decide (0 < i) && decide (y ≥ x))) := by simp [nNumAt, hy, hx]
    simp [hx, hy, h, wrapN (Nat.le_trans hi hl), wrapP (Nat.le_trans hi hl), hu, -getElem?_pos]
    refine callW_of (fitsNum_h x) ?_
    simp [hx, hy, h, wrapN (Nat.le_trans hi hl), wrapP (Nat.le_trans hi hl), hu, -getElem?_pos]
    and_intros
    · omega
    · intro hc
      exact all_false h (by rw [ht]; grind)
    · intro h1 h2
      exact ⟨i + 1, by simp, ⟨by omega, hok.next (by rw [ht]; grind)⟩, by omega⟩
  · have : i = l.length := by omega
    subst this
    simp
    exact hok
def nLitF (w : LookD) (l : LitD) : Bool :=
  if l.kind = 1 then
    if sameF { l with texts := [], nums := [] } { LitD.zero with kind := 1, term := l.term } = false then false
    else if textTermF w l.term then l.nums.length == 0 && nTextsF l.texts
    else numberTermF w l.term && l.texts.length == 0 && nNumsF l.nums
  else if l.kind = 2 then
    ((l.rel == 4 && decide (l.num ≥ -1000000000000000000) && decide (l.num ≤ 999999999999999999)) || (l.rel == 6 && decide (l.num ≥ -999999999999999999) && decide (l.num ≤ 1000000000000000000))) && numberTermF w l.term && sameF l { LitD.zero with kind := 2, term := l.term, rel := l.rel, num := l.num }
  else if l.kind = 3 then pairF w l && sameF l { LitD.zero with kind := 3, term := l.term, rel := l.rel, other := l.other }
  else if l.kind = 4 then keysF w l && sameF l { LitD.zero with kind := 4, term := l.term, of_ := l.of_ }
  else if l.kind = 5 then w.node && (plainTextF l.term || (l.term.side == 1 && textTermF w l.term)) && sameF l { LitD.zero with kind := 5, term := l.term }
  else if l.kind = 6 then w.node && decide (l.key.size ≤ 127) && sameF l { LitD.zero with kind := 6, key := l.key }
  else if l.kind = 7 then w.node && decide (l.key.size ≤ 127) && placeF w l.sel && sameF l { LitD.zero with kind := 7, key := l.key, sel := l.sel }
  else false
set_option maxRecDepth 8000 in
set_option maxHeartbeats 2000000 in
theorem nLit_h (w : LookD) (l : LitD) (hl : l.fits) : Has Tryz.prog 99 [lookA w, .agg (litCs l)] (bA (nLitF w l)) noTok := by
  refine fnT Tryz.mixed [0, 1, 3, 4, 5, 6, 7, 8, 10, 11, 21, 25, 50, 99, 115, 129, 160, 178] [] [] Tryz.func99 rfl rfl rfl (by kernel_rfl) rfl ?_
  simp [litCs, strsA, intsA, lookA]
  repeat' first
    | refine And.intro ?_ ?_
    | intro _
    | (refine callW_of (same_h { l with texts := [], nums := [] } { LitD.zero with kind := 1, term := l.term } ⟨by simp, by simp⟩) ?_; simp)
    | (refine callW_of (textTerm_h w l.term) ?_; simp)
    | (refine callG_of (fun _ => textTerm_h w l.term) rfl ?_; simp)
    | (refine callW_of (numberTerm_h w l.term) ?_; simp)
    | (refine callG_of (fun _ => numberTerm_h w l.term) rfl ?_; simp)
    | (refine callG_of (fun _ => nTexts_h l.texts hl.1) rfl ?_; simp)
    | (refine callG_of (fun _ => nNums_h l.nums hl.2) rfl ?_; simp)
    | (refine callW_of (pair_h w l) ?_; simp)
    | (refine callW_of (keys_h w l) ?_; simp)
    | (refine callW_of (plainText_h l.term) ?_; simp)
    | (refine callG_of (fun _ => fitsText_h l.key) rfl ?_; simp)
    | (refine callG_of (fun _ => place_h w l.sel) rfl ?_; simp)
    | (refine callG_of (fun _ => same_h l { LitD.zero with kind := 2, term := l.term, rel := l.rel, num := l.num } hl) rfl ?_; simp)
    | (refine callG_of (fun _ => same_h l { LitD.zero with kind := 3, term := l.term, rel := l.rel, other := l.other } hl) rfl ?_; simp)
    | (refine callG_of (fun _ => same_h l { LitD.zero with kind := 4, term := l.term, of_ := l.of_ } hl) rfl ?_; simp)
    | (refine callG_of (fun _ => same_h l { LitD.zero with kind := 5, term := l.term } hl) rfl ?_; simp)
    | (refine callG_of (fun _ => same_h l { LitD.zero with kind := 6, key := l.key } hl) rfl ?_; simp)
    | (refine callG_of (fun _ => same_h l { LitD.zero with kind := 7, key := l.key, sel := l.sel } hl) rfl ?_; simp)
  all_goals grind [nLitF]
end Go.Proofs.YtldnkeackphilaaGreatDoor
/- norm.Valid's functions: a part. -/
namespace Go.Proofs.YtldnkeackphilaaGreatDoor
open Go.RowKit

def nPartF (w : LookD) (p : PartD) : Bool :=
  if p.kind = 1 ∨ p.kind = 2 then p.kids.length == 0 && !p.neg && isZeroF p.lit
  else if p.kind = 3 ∨ p.kind = 4 then decide (p.kids.length ≥ 2) && !p.neg && isZeroF p.lit
  else if p.kind = 5 then p.kids.length == 0 && nLitF w p.lit
  else false
set_option maxRecDepth 8000 in
set_option maxHeartbeats 1000000 in
theorem nPart_h (w : LookD) (p : PartD) (hl : p.lit.fits) : Has Tryz.prog 58 [lookA w, .agg (partCs p)] (bA (nPartF w p)) noTok := by
  refine fnT Tryz.mixed [0, 1, 3, 4, 6, 7, 24, 41] [] [] Tryz.func58 rfl rfl rfl (by kernel_rfl) rfl ?_
  simp [partCs, strsA, intsA, lookA]
  repeat' first
    | refine And.intro ?_ ?_
    | intro _
    | (refine callG_of (fun _ => isZero_h p.lit hl) rfl ?_; simp)
    | (refine callG_of (fun _ => nLit_h w p.lit hl) rfl ?_; simp)
  all_goals grind [nPartF]
end Go.Proofs.YtldnkeackphilaaGreatDoor
