/- What cond makes is valid, in plain Lean: its operands and literals. -/
import Derived.Test.YtldnkeackphilaaGreatDoorNr18
import Derived.Test.YtldnkeackphilaaGreatDoorNr17
import Derived.Test.YtldnkeackphilaaGreatDoorNr14
set_option linter.unusedSimpArgs false
set_option linter.unusedVariables false
namespace Go.Proofs.YtldnkeackphilaaGreatDoor

inductive GoodV : Bool → Tr → Prop
  | leaf (b : Bool) (k : Int) (h : k = 1 ∨ k = 2) : GoodV b (.leaf k)
  | lit (b : Bool) (l : LitD) (s : Int) (h : ∀ m : Int, litF l (!b) m = true) : GoodV b (.lit l s none)
  | sel (l : LitD) (s : Int) (u : Tr) (h : ∀ n m : Int, 0 ≤ n → n < m → litF (l.at_ n) false m = true) (hu : GoodV false u) : GoodV true (.lit l s (some u))
  | join (b : Bool) (k : Int) (kids : List Tr) (hk : k = 3 ∨ k = 4) (h2 : 2 ≤ kids.length) (h : ∀ t ∈ kids, GoodV b t) : GoodV b (.mk k false .zero kids none)
theorem okv_truth (b : Bool) (c : Bool) (s : Int) : GoodV b (truthF c s) := by unfold truthF; split <;> exact .leaf _ _ (by simp)
theorem okv_join (b : Bool) (kind : Int) (hk : kind = 3 ∨ kind = 4) (kids : List Tr) (h : ∀ t ∈ kids, GoodV b t) : GoodV b (joinF kind kids) := by
  unfold joinF
  dsimp only
  have hwd : ((if kind = 4 then (1 : Int) else 2) = 1 ∨ (if kind = 4 then (1 : Int) else 2) = 2) ∧ ((if kind = 4 then (2 : Int) else 1) = 1 ∨ (if kind = 4 then (2 : Int) else 1) = 2) := by rcases hk with rfl | rfl <;> simp
  generalize (if kind = 4 then (1 : Int) else 2) = win at *
  generalize (if kind = 4 then (2 : Int) else 1) = drop at *
  split
  · exact .leaf _ _ hwd.1
  · have hf : ∀ t ∈ kids.filter (fun t => decide (t.kind ≠ drop)), GoodV b t := fun t ht => h t (List.mem_filter.1 ht).1
    generalize kids.filter (fun t => decide (t.kind ≠ drop)) = l at hf ⊢
    split
    · exact .leaf _ _ hwd.2
    · exact hf _ (by simp)
    · next h1 h2 =>
      refine .join b kind l hk ?_ hf
      match l, h1, h2 with
      | [], h1, _ => exact absurd rfl h1
      | [t], _, h2 => exact absurd rfl (h2 t)
      | _ :: _ :: _, _, _ => simp
structure OkO (b : Bool) (x : OpdD) : Prop where
  st : x.step = 0 ∨ x.step = 1 ∨ x.step = 2
  c : x.step = 0 → (x.num = false → x.text.size ≤ 127) ∧ okN x.n
  no : x.step ≠ 2 → x.sel = none
  nm : x.step = 2 → x.num = numberF x.term ∧ x.num = !(textF x.term)
  t0 : x.step = 2 → x.sel = none → ∀ m, termF x.term (!b) m = true
  t1 : x.step = 2 → ∀ u, x.sel = some u → b = true ∧ GoodV false u ∧ x.term.kind = 6 ∧ x.term.side = 0 ∧ x.term.key.size ≤ 127
def restL (l : LitD) (pods : Bool) (sels : Int) : Bool :=
    if l.kind = 1 then inF l && restF l true false false false false false
    else if l.kind = 2 then relF l && restF l false true true false false false
    else if l.kind = 3 then termF l.other pods sels && podF l && restF l false true false true false false
    else if l.kind = 4 then !(!(sideF l.of_ pods) || (l.term.kind != 1 && !textF l.term)) && (l.of_ == 1 || ofPodF l.term) && restF l false false false false true false
    else if l.kind = 5 then !pods && (l.term.kind == 1 || textF l.term) && ofPodF l.term && restF l false false false false false false
    else false
theorem litF_eq {l : LitD} (hk : l.key = noText) (h : l.kind ≤ 5) (p : Bool) (m : Int) : litF l p m = (termF l.term p m && restL l p m) := by
  have e : ¬ l.key.size > 127 := by rw [hk]; decide
  have e2 : ¬(l.kind = 6 ∨ l.kind = 7) := by omega
  rw [litF, if_neg e, if_neg e2]
  rfl
theorem okv_term {b : Bool} {x : OpdD} (hx : OkO b x) (hs : x.step = 2) {l : LitD} (hl : l.term = x.term) (hk : l.key = noText) (h5 : l.kind ≤ 5) (s : Int) (H : ∀ n m, restL { l with term := { l.term with sel := n } } (!b) m = true) : GoodV b (.lit l s x.sel) := by
  cases hsel : x.sel with
  | none =>
    refine .lit b l s fun m => ?_
    rw [litF_eq hk h5, hl, hx.t0 hs hsel m, Bool.true_and]
    exact H l.term.sel m
  | some u =>
    obtain ⟨rfl, h2, h3, h4, h6⟩ := hx.t1 hs u hsel
    refine .sel l s u (fun n m hn hm => ?_) h2
    have e : l.at_ n = { l with term := { l.term with sel := n } } := by rw [LitD.at_, if_neg (by omega)]
    rw [e, litF_eq (l := { l with term := { l.term with sel := n } }) hk h5]
    have hr := H n m
    rw [Bool.not_true] at hr
    rw [hr, Bool.and_true]
    simp only [termF, hl, h3, h4]
    rw [if_neg (by omega)]
    simp
    omega
theorem eqT_zero : eqT .zero .zero = true := by simp [eqT]
theorem text_num {t : TermD} (h : numberF t = true) : textF t = false := by
  simp only [numberF, textF, Bool.and_eq_true, decide_eq_true_eq] at h ⊢
  simp
  omega
theorem rising_one {s : ByteArray} (h : s.size ≤ 127) : risingTextsF [s] = true := rising_texts (by simp) (by simpa using h)
theorem rising_oneN {n : Int} (h : okN n) : risingNumsF [n] = true := rising_nums (by simp) (by simpa using h)
theorem okv_against {b : Bool} {x c : OpdD} (cmp s : Int) (hx : OkO b x) (hxs : x.step = 2) (hc : OkO b c) (hcs : c.step = 0) (hn : x.num = c.num) (hcmp : 1 ≤ cmp ∧ cmp ≤ 6 ∧ cmp ≠ 2) (htx : x.num = false → cmp = 1) : GoodV b (againstF x c cmp s) := by
  have hcc := hc.c hcs
  have hnm := hx.nm hxs
  have hok := hcc.2
  unfold okN at hok
  have kd : ∀ n : Int, textF { x.term with sel := n } = textF x.term ∧ numberF { x.term with sel := n } = numberF x.term := fun n => ⟨rfl, rfl⟩
  unfold againstF
  refine okv_term hx hxs ?_ ?_ ?_ s fun n m => ?_
  · unfold againstL; repeat' split
    all_goals rfl
  · unfold againstL; repeat' split
    all_goals rfl
  · unfold againstL; repeat' split
    all_goals simp
  · unfold againstL
    by_cases hN : x.num = true
    · have e1 : c.num = true := by rw [← hn, hN]
      have e2 : numberF x.term = true := by rw [← hnm.1, hN]
      have e3 := text_num e2
      rw [e1]
      repeat' split
      · have := rising_oneN hcc.2
        simp [restL, inF, restF, kd, e2, e3, this, LitD.zero, eqT_zero, noText_l]
      · simp at *
      · simp [restL, relF, restF, kd, e2, e3, LitD.zero, eqT_zero, noText_l]; omega
      · simp [restL, relF, restF, kd, e2, e3, LitD.zero, eqT_zero, noText_l]; omega
      · simp [restL, relF, restF, kd, e2, e3, LitD.zero, eqT_zero, noText_l]; omega
      · simp [restL, relF, restF, kd, e2, e3, LitD.zero, eqT_zero, noText_l]; omega
      · omega
    · have hN : x.num = false := by simpa using hN
      have e0 := htx hN
      subst e0
      have e1 : c.num = false := by rw [← hn, hN]
      have e3 : textF x.term = true := by have := hnm.2; rw [hN] at this; simpa using this.symm
      have := rising_one (hcc.1 e1)
      simp [restL, inF, restF, kd, e1, e3, this, LitD.zero, eqT_zero, noText_l]
theorem okv_pod {b : Bool} {x y : OpdD} (cmp s : Int) (hx : OkO b x) (hxs : x.step = 2) (hy : OkO b y) (hys : y.step = 2) (hn : x.num = y.num) (hcmp : 1 ≤ cmp ∧ cmp ≤ 6 ∧ cmp ≠ 2) (htx : x.num = false → cmp = 1) (hsd : y.term.side = 1) :
    GoodV b (.lit { LitD.zero with kind := 3, term := x.term, rel := cmp, other := y.term } s x.sel) := by
  have hnx := hx.nm hxs
  have hny := hy.nm hys
  have hsel : y.sel = none := by
    cases h : y.sel with
    | none => rfl
    | some u => have := (hy.t1 hys u h).2.2.2.1; omega
  have ht := hy.t0 hys hsel
  have kd : ∀ n : Int, textF { x.term with sel := n } = textF x.term ∧ numberF { x.term with sel := n } = numberF x.term := fun n => ⟨rfl, rfl⟩
  refine okv_term hx hxs rfl rfl (by simp) s fun n m => ?_
  by_cases hN : x.num = true
  · have e2 : numberF x.term = true := by rw [← hnx.1, hN]
    have e3 := text_num e2
    have e4 : numberF y.term = true := by rw [← hny.1, ← hn, hN]
    have e5 : y.term.kind = 4 := by
      have h1 := ht 0
      simp only [numberF, Bool.and_eq_true, decide_eq_true_eq] at e4
      unfold termF at h1
      by_cases h4 : y.term.kind = 4
      · exact h4
      · have h5 : y.term.kind = 5 ∨ y.term.kind = 6 := by omega
        rcases h5 with h5 | h5 <;> simp [h5, hsd] at h1
    simp [restL, podF, restF, kd, e2, e3, ht m, hsd, e5, LitD.zero, noText_l]
    omega
  · have hN : x.num = false := by simpa using hN
    have e0 := htx hN
    subst e0
    have e3 : textF x.term = true := by have := hnx.2; rw [hN] at this; simpa using this.symm
    have e4 : textF y.term = true := by have := hny.2; rw [← hn, hN] at this; simpa using this.symm
    simp [restL, podF, restF, kd, e3, e4, ht m, hsd, LitD.zero, noText_l]
theorem okv_compared {b : Bool} {x y : OpdD} (n s : Int) (hx : OkO b x) (hy : OkO b y) (hnum : x.num = y.num) (hn : 1 ≤ n ∧ n ≤ 6) (htx : x.num = false → n ≤ 2) (hmv : x.step = 2 → y.step = 2 → x.term.side = 1 ∨ y.term.side = 1) : GoodV b (comparedX x y n s) := by
  unfold comparedX
  dsimp only
  have hc : 1 ≤ (if n = 2 then 1 else n) ∧ (if n = 2 then 1 else n) ≤ 6 ∧ (if n = 2 then 1 else n) ≠ 2 := by split <;> omega
  have ht1 : x.num = false → (if n = 2 then 1 else n) = 1 := fun h => by have := htx h; split <;> omega
  generalize (if n = 2 then 1 else n) = cmp at *
  generalize (if n = 2 then 1 - s else s) = s'
  have ht : 1 ≤ turnF cmp ∧ turnF cmp ≤ 6 ∧ turnF cmp ≠ 2 := by
    unfold turnF
    repeat' split
    all_goals omega
  have ht2 : y.num = false → turnF cmp = 1 := fun h => by rw [ht1 (hnum.trans h)]; rfl
  have sx := hx.st
  have sy := hy.st
  split
  · exact okv_truth _ _ _
  split
  · exact okv_truth _ _ _
  split
  · exact okv_against _ _ hy (by omega) hx (by omega) hnum.symm ht ht2
  split
  · exact okv_against _ _ hx (by omega) hy (by omega) hnum hc ht1
  have h2x : x.step = 2 := by omega
  have h2y : y.step = 2 := by omega
  split
  · next h => exact okv_pod _ _ hy h2y hx h2x hnum.symm ht ht2 h.1
  · next h => exact okv_pod _ _ hx h2x hy h2y hnum hc ht1 (by have := hmv h2x h2y; omega)
theorem okv_member {b : Bool} {x : OpdD} (es : List OpdD) (s : Int) (hx : OkO b x) (hes : ∀ e ∈ es, e.num = x.num ∧ (e.num = false → e.text.size ≤ 127) ∧ okN e.n) : GoodV b (memberX x es s) := by
  unfold memberX
  split
  · exact okv_truth _ _ _
  split
  · exact okv_truth _ _ _
  next h1 h0 =>
  have hxs : x.step = 2 := by have := hx.st; omega
  have hnm := hx.nm hxs
  have kd : ∀ n : Int, textF { x.term with sel := n } = textF x.term ∧ numberF { x.term with sel := n } = numberF x.term := fun n => ⟨rfl, rfl⟩
  refine okv_term hx hxs rfl rfl (by simp) s fun n m => ?_
  by_cases hN : x.num = true
  · have e2 : numberF x.term = true := by rw [← hnm.1, hN]
    have e3 := text_num e2
    have e4 : textsOf es = [] := by
      unfold textsOf
      rw [List.map_eq_nil_iff, List.filter_eq_nil_iff]
      intro e he
      simp [(hes e he).1, hN]
    have e5 : risingNumsF (Lib.compact (sortedI (numsOf es))) = true := rising_set _ fun n hn => by
      unfold numsOf at hn
      obtain ⟨e, he, rfl⟩ := List.mem_map.1 hn
      exact (hes e (List.mem_filter.1 he).1).2.2
    have e6 : compactS (sortedS []) = [] := List.eq_nil_of_length_eq_zero (by have := sets_len []; have : ([] : List OpdD).length = 0 := rfl; have : textsOf [] = [] := rfl; simp_all)
    rw [e4, e6]
    simp [restL, inF, restF, kd, e2, e3, e5, LitD.zero, eqT_zero, noText_l]
  · have hN : x.num = false := by simpa using hN
    have e3 : textF x.term = true := by have := hnm.2; rw [hN] at this; simpa using this.symm
    have e4 : numsOf es = [] := by
      unfold numsOf
      rw [List.map_eq_nil_iff, List.filter_eq_nil_iff]
      intro e he
      simp [(hes e he).1, hN]
    have e5 : risingTextsF (compactS (sortedS (textsOf es))) = true := rising_textset _ fun n hn => by
      unfold textsOf at hn
      obtain ⟨e, he, rfl⟩ := List.mem_map.1 hn
      have h2 := List.mem_filter.1 he
      exact (hes e h2.1).2.1 (by simpa using h2.2)
    have e6 : Lib.compact (sortedI ([] : List Int)) = [] := by simp [sortedI, Lib.compact, Lib.compactUpTo]
    rw [e4, e6]
    simp [restL, inF, restF, kd, e3, e5, LitD.zero, eqT_zero, noText_l]
end Go.Proofs.YtldnkeackphilaaGreatDoor
namespace Go.Proofs.YtldnkeackphilaaGreatDoor

theorem side_known {n s : Int} (hs : s = 2 ∨ s = 3) (h : n = 1 ∨ n = s) : sideF n (!decide (s = 2)) = true := by
  unfold sideF
  rcases hs with rfl | rfl <;> rcases h with rfl | rfl <;> simp
theorem speaks_side {s i : Int} {p : Part} {t : Int × Int} (h : speaksF s i p = .inr t) (hk : p.kind = 14 ∨ p.kind = 15 ∨ p.kind = 16) : (p.num = 1 ∨ p.num = s) ∧ t.2 = p.num ∧ (p.kind = 16 → t.1 = 4) ∧ (p.kind ≠ 16 → t.1 = 2) := by
  unfold speaksF at h
  have e : (if p.kind = 17 ∨ p.kind = 18 then p.num = 2 ∧ s = 2 else p.num = 1 ∨ p.num = s) ↔ (p.num = 1 ∨ p.num = s) := by rw [if_neg (by omega)]
  rw [if_neg (by omega)] at h
  by_cases hn : p.num = 1 ∨ p.num = s
  · rw [if_neg (fun h => h (e.2 hn))] at h
    refine ⟨hn, ?_⟩
    split at h
    · split at h
      · cases h
      · cases h; exact ⟨rfl, by omega, fun _ => rfl⟩
    · split at h
      · cases h; exact ⟨rfl, by omega, fun _ => rfl⟩
      · rw [if_neg (by omega)] at h
        cases h; exact ⟨rfl, fun _ => rfl, by omega⟩
  · rw [if_pos (fun h => hn (e.1 h))] at h; cases h
theorem speaks_node {s i : Int} {p : Part} {t : Int × Int} (h : speaksF s i p = .inr t) (hk : p.kind = 17 ∨ p.kind = 18) : s = 2 ∧ p.num = 2 ∧ t.2 = 2 ∧ (p.kind = 17 → t.1 = 4) ∧ (p.kind = 18 → t.1 = 3) := by
  unfold speaksF at h
  have e : (if p.kind = 17 ∨ p.kind = 18 then p.num = 2 ∧ s = 2 else p.num = 1 ∨ p.num = s) ↔ (p.num = 2 ∧ s = 2) := by rw [if_pos hk]
  rw [if_neg (by omega)] at h
  by_cases hn : p.num = 2 ∧ s = 2
  · rw [if_neg (fun h => h (e.2 hn)), if_neg (by omega), if_neg (by omega)] at h
    refine ⟨hn.2, hn.1, ?_⟩
    split at h
    · split at h
      · cases h
      · cases h; exact ⟨hn.1, by omega, fun _ => rfl⟩
    · cases h; exact ⟨hn.1, fun _ => rfl, by omega⟩
  · rw [if_pos (fun h => hn (e.1 h))] at h; cases h
theorem orE {f : Option (Int × Int)} {u t : Int × Int} (h : orElse f u = .inr t) : f = none ∧ t = u := by
  unfold orElse at h
  split at h
  · cases h
  · cases h; exact ⟨rfl, rfl⟩
set_option linter.unusedSectionVars false
section
variable {ps : List Part} {scope : Int} {ts : List (Int × Int)} (ht : Typed ps scope ts)
include ht
theorem part_fits {i : Nat} {p : Part} (hp : ps[i]? = some p) : 1 ≤ p.kind ∧ p.kind ≤ 20 ∧ p.text.size ≤ 127 ∧ numFitsF p.kind p.num = true ∧ kidCountF p.kind p.kids.length = true := by
  have hw := wf_of_shape (shape_of_valid ht.valid)
  have := hw.fits i p hp
  simp only [partFitsF, Bool.and_eq_true, decide_eq_true_eq] at this
  exact ⟨this.1.1.1.1.1, this.1.1.1.1.2, this.1.1.1.2, this.1.2, this.2⟩
theorem same_scope {i : Nat} {p : Part} (hp : ps[i]? = some p) {k : Nat} (hk : (k : Int) ∈ p.kids) (hs : ¬(p.kind = 8 ∨ p.kind = 9 ∨ p.kind = 20)) : scopeAt ps scope k = scopeAt ps scope i := by
  rw [scope_kid ht.valid scope hp hk]
  simp [selK, hs]
theorem one_nat {i : Nat} {p : Part} (hp : ps[i]? = some p) (h : p.kind = 3 ∨ p.kind = 8 ∨ p.kind = 9 ∨ p.kind = 19 ∨ p.kind = 20) : ∃ k : Nat, p.kids = [(k : Int)] ∧ k < i ∧ ∃ q, ps[k]? = some q := by
  have hw := wf_of_shape (shape_of_valid ht.valid)
  have hcnt := (part_fits ht hp).2.2.2.2
  have h1 : (p.kids.length : Int) = 1 := by rcases h with h | h | h | h | h <;> simpa [kidCountF, h] using hcnt
  replace h1 : p.kids.length = 1 := by omega
  have h2 := (List.getElem?_eq_some_iff.1 hp).1
  match hl : p.kids, h1 with
  | [a], _ =>
    have h3 := hw.kids i p hp a (by simp [hl])
    refine ⟨a.toNat, by simp; omega, by omega, _, List.getElem?_eq_getElem (by omega)⟩
variable (c : Int → Int → Tr) {N : Nat} (hc : ∀ (j : Nat) p s, j < N → ps[j]? = some p → 1 ≤ p.kind ∧ p.kind ≤ 10 → (scopeAt ps scope j = 2 ∨ scopeAt ps scope j = 3) → GoodV (selB ps scope j) (c j s))
include hc
theorem okv_kid {i : Nat} {p : Part} (hN : i ≤ N) (hp : ps[i]? = some p) (hs : scopeAt ps scope i = 2 ∨ scopeAt ps scope i = 3) (h : p.kind = 3 ∨ p.kind = 4 ∨ p.kind = 5) {k : Int} (hk : k ∈ p.kids) (s : Int) : GoodV (selB ps scope i) (c k s) := by
  have hw := wf_of_shape (shape_of_valid ht.valid)
  have h1 := hw.kids i p hp k hk
  have h2 := (List.getElem?_eq_some_iff.1 hp).1
  obtain ⟨j, rfl⟩ : ∃ j : Nat, k = j := ⟨k.toNat, by omega⟩
  have hq : ps[j]? = some ps[j] := List.getElem?_eq_getElem (by omega)
  have h3 := hw.kinds i p hp j hk
  rw [kindAt_nat ps j _ hq] at h3
  have h4 : isCondF ps[j].kind = true := by
    unfold kidFitsF at h3
    rwa [if_pos (by omega)] at h3
  have e := same_scope ht hp hk (by omega)
  have := hc j _ s (by omega) hq (by simpa [isCondF] using h4) (by rw [e]; exact hs)
  unfold selB at this ⊢
  rwa [e] at this
theorem okv_sel {i : Nat} {p : Part} (hN : i ≤ N) (hp : ps[i]? = some p) (h : p.kind = 8 ∨ p.kind = 9 ∨ p.kind = 20) (s : Int) : GoodV false (c (p.kids.headD 0) s) := by
  have hw := wf_of_shape (shape_of_valid ht.valid)
  obtain ⟨j, hj, h1, q, hq⟩ := one_nat ht hp (by omega)
  have h3 := hw.kinds i p hp j (by simp [hj])
  rw [kindAt_nat ps j _ hq] at h3
  have h4 : isCondF q.kind = true := by
    unfold kidFitsF at h3
    rwa [if_pos (by omega)] at h3
  have e : scopeAt ps scope j = 3 := by rw [scope_kid ht.valid scope hp (k := j) (by simp [hj])]; simp [selK]; omega
  have := hc j _ s (by omega) hq (by simpa [isCondF] using h4) (.inr e)
  unfold selB at this
  rw [e] at this
  rw [hj]
  exact this
theorem ok_step (x : OpdD) {b : Bool} (h : x.step = 0 ∨ x.step = 1) (hn : x.sel = none) (hc : x.step = 0 → (x.num = false → x.text.size ≤ 127) ∧ okN x.n) : OkO b x :=
  ⟨by omega, hc, fun _ => hn, fun h => by omega, fun h => by omega, fun h => by omega⟩
theorem okv_opd {i : Nat} {p : Part} (hN : i ≤ N) (hp : ps[i]? = some p) (hs : scopeAt ps scope i = 2 ∨ scopeAt ps scope i = 3) (hk : sideK p.kind) {t : Int × Int} (h : typeF ps (scopesF ps scope) (ts.take i) i p = .inr t) :
    OkO (selB ps scope i) (opdF c ps i) ∧ (opdF c ps i).num = decide (t.1 = 3) ∧ (t.1 = 2 ∨ t.1 = 3) ∧ ((opdF c ps i).step = 2 → (opdF c ps i).term.side = 1 ∨ t.2 = 2 ∨ t.2 = 3) ∧ ((opdF c ps i).num = false → (opdF c ps i).sel = none) := by
  obtain ⟨-, -, htx, hnf, -⟩ := part_fits ht hp
  have esc : (scopesF ps scope).getD (i : Int).toNat 0 = scopeAt ps scope i := rfl
  have sd : ∀ n : Int, n = 1 ∨ n = scopeAt ps scope i → sideF n (!selB ps scope i) = true := fun n h => side_known hs h
  have ns : ∀ n : Int, n = 1 ∨ n = scopeAt ps scope i → n = 1 ∨ n = 2 ∨ n = 3 := fun n h => by omega
  have nt : ¬ noText.size > 127 := by decide
  unfold opdF
  rw [partAt_nat hp]
  unfold opdOf
  dsimp only
  rcases hk with hk | hk | hk | hk | hk | hk | hk <;> rw [typeF, hk] at h <;> simp only [hk] <;> simp only [reduceIte, Int.reduceEq, or_self, or_false, false_or] at h ⊢
  · cases h
    exact ⟨ok_step ht c hc _ (.inl rfl) rfl fun _ => ⟨fun _ => htx, by simp [okN]⟩, by simp, by simp, by simp, by simp⟩
  · cases h
    refine ⟨ok_step ht c hc _ (.inl rfl) rfl fun _ => ⟨by simp, ?_⟩, by simp, by simp, by simp, by simp⟩
    simpa [numFitsF, hk, okN] using hnf
  · rw [esc] at h
    obtain ⟨h1, h2, -, h3⟩ := speaks_side h (by omega)
    have h4 := h3 (by omega)
    refine ⟨⟨.inr (.inr rfl), by simp, by simp, fun _ => by simp [numberF, textF], fun _ _ m => ?_, by simp⟩, by simp [h4], .inl h4, fun _ => by rw [h2]; exact ns _ h1, by simp⟩
    simp [termF, sd _ h1]
    omega
  · rw [esc] at h
    obtain ⟨h1, h2, -, h3⟩ := speaks_side h (by omega)
    have h4 := h3 (by omega)
    refine ⟨⟨.inr (.inr rfl), by simp, by simp, fun _ => by simp [numberF, textF], fun _ _ m => ?_, by simp⟩, by simp [h4], .inl h4, fun _ => by rw [h2]; exact ns _ h1, by simp⟩
    simp [termF, sd _ h1, noText_l, nt]
  · rw [esc] at h
    obtain ⟨h1, h2, h5, -, h3⟩ := speaks_node h (by omega)
    have h4 := h3 (by omega)
    refine ⟨⟨.inr (.inr rfl), by simp, by simp, fun _ => by simp [numberF, textF], fun _ _ m => ?_, by simp⟩, by simp [h4], .inr h4, fun _ => by simp [h5], by simp⟩
    simp [termF, selB, h1]
    omega
  · obtain ⟨h1, rfl⟩ := orE h
    have h2 : scopeAt ps scope i = 2 := by
      unfold selectorF at h1
      rw [esc] at h1
      split at h1
      · cases h1
      · next h => simpa using h
    refine ⟨⟨.inr (.inr rfl), by simp, by simp, fun _ => by simp [numberF, textF], by simp, fun _ u hu => ?_⟩, by simp, by simp, by simp, by simp⟩
    cases hu
    exact ⟨by simp [selB, h2], okv_sel ht c hc (by omega) hp (by omega) 0, rfl, rfl, htx⟩
  · obtain ⟨j, hj, hji, q, hq⟩ := one_nat ht hp (by omega)
    rw [hj] at h ⊢
    simp only [List.headD_cons] at h ⊢
    simp only [partAt_nat hq]
    have ek : kindOf ps (j : Int) = q.kind := by simp [kindOf, hq]
    simp only [ek] at h
    split at h
    · cases h
    next h1411 =>
    cases h
    by_cases h14 : q.kind = 14
    · obtain ⟨tq, hq1, hq2⟩ := ht.each j q hq
      rw [typeF, h14] at hq2
      simp only [reduceIte, Int.reduceEq, or_self, or_false, false_or] at hq2
      have e := same_scope ht hp (k := j) (by simp [hj]) (by omega)
      have esj : (scopesF ps scope).getD (j : Int).toNat 0 = scopeAt ps scope i := e
      rw [esj] at hq2
      obtain ⟨h1, h2, -, h3⟩ := speaks_side hq2 (by omega)
      have hqt := (part_fits ht hq).2.2.1
      rw [if_pos h14, sideAt_take ts (by omega) (by omega), sideAt_nat hq1]
      refine ⟨⟨.inr (.inr rfl), by simp, by simp, fun _ => by simp [numberF, textF], fun _ _ m => ?_, by simp⟩, by simp, by simp, fun _ => by simp only [h2]; exact ns _ h1, by simp⟩
      simp [termF, sd _ h1]
      omega
    · rw [if_neg h14]
      cases hi : intF q.text with
      | none => exact ⟨ok_step ht c hc _ (.inr rfl) rfl (by simp), by simp, by simp, by simp, by simp⟩
      | some n =>
        have := intF_range hi
        exact ⟨ok_step ht c hc _ (.inl rfl) rfl fun _ => ⟨by simp, by simp only [okN]; omega⟩, by simp, by simp, by simp, by simp⟩
end
end Go.Proofs.YtldnkeackphilaaGreatDoor
namespace Go.Proofs.YtldnkeackphilaaGreatDoor

theorem sides_ok {kind num f g : Int} {mv : Bool} {i a b : Int} (h : sidesG kind num f g mv i a b = none) (hk : kind = 6 ∨ kind = 7) : (f = 2 ∨ f = 3) ∧ (kind = 6 → g = f ∧ (f = 2 → num ≤ 2)) ∧ (kind = 7 → g = 6 ∨ (g = 4 ∧ f = 2) ∨ (g = 5 ∧ f = 3)) ∧ mv = false := by
  unfold sidesG at h
  by_cases h1 : f ≠ 2 ∧ f ≠ 3
  · simp [h1] at h
  rw [if_neg h1] at h
  have e : (if kind = 7 then g = 6 ∨ (g = 4 ∧ f = 2) ∨ (g = 5 ∧ f = 3) else g = f) ↔ ((kind = 7 → g = 6 ∨ (g = 4 ∧ f = 2) ∨ (g = 5 ∧ f = 3)) ∧ (kind = 6 → g = f)) := by
    rcases hk with rfl | rfl <;> simp
  by_cases h2 : (if kind = 7 then g = 6 ∨ (g = 4 ∧ f = 2) ∨ (g = 5 ∧ f = 3) else g = f)
  · rw [if_neg (fun h => h h2)] at h
    have h3 := e.1 h2
    split at h
    · cases h
    split at h
    · cases h
    next h4 h5 => exact ⟨by omega, fun h6 => ⟨h3.2 h6, fun hf => by omega⟩, h3.1, by simpa using h5⟩
  · rw [if_pos h2] at h; cases h
theorem lit_near (t : ByteArray) (h : t.size ≤ 127) (n m : Int) (h1 : 0 ≤ n) (h2 : n < m) : litF (LitD.at_ { LitD.zero with kind := 7, key := t } n) false m = true := by
  simp only [LitD.at_, reduceIte, litF, LitD.zero, restF, eqT_zero, Int.reduceEq, or_true]
  rw [if_neg (by omega)]
  simp [h1, h2]
theorem lit_tol (t : ByteArray) (h : t.size ≤ 127) (m : Int) : litF { LitD.zero with kind := 6, key := t } false m = true := by
  simp only [reduceIte, litF, LitD.zero, restF, eqT_zero, Int.reduceEq, true_or]
  rw [if_neg (by omega)]
  simp
set_option linter.unusedSectionVars false
section
variable {ps : List Part} {scope : Int} {ts : List (Int × Int)} (ht : Typed ps scope ts)
include ht
variable (c : Int → Int → Tr) {N : Nat} (hc : ∀ (j : Nat) p s, j < N → ps[j]? = some p → 1 ≤ p.kind ∧ p.kind ≤ 10 → (scopeAt ps scope j = 2 ∨ scopeAt ps scope j = 3) → GoodV (selB ps scope j) (c j s))
include hc
theorem okv_near {i : Nat} {p : Part} (hN : i ≤ N) (hp : ps[i]? = some p) (hk : p.kind = 8 ∨ p.kind = 9) (s : Int) : GoodV (selB ps scope i) (nearF c p s) := by
  have e : selB ps scope i = true := by simp [selB, sel_scope ht hp (by omega)]
  have htx := (part_fits ht hp).2.2.1
  unfold nearF
  dsimp only
  split
  · exact okv_truth _ _ _
  · rw [e]
    exact .sel _ s _ (fun n m h1 h2 => lit_near p.text htx n m h1 h2) (okv_sel ht c hc (by omega) hp (by omega) 0)
theorem okv_key {x : OpdD} {b : Bool} (hx : OkO b x) (hn : x.num = false) (hsel : x.sel = none) (hst : x.step ≠ 1) : (∀ m, termF (keyTermF x) (!b) m = true) ∧ ((keyTermF x).kind = 1 ∨ textF (keyTermF x) = true) ∧ (x.step = 2 → keyTermF x = x.term) ∧ (x.step = 0 → (keyTermF x).kind = 1) := by
  have h0 := hx.st
  unfold keyTermF
  by_cases h : x.step = 0
  · rw [if_pos h]
    have := (hx.c h).1 hn
    refine ⟨fun m => ?_, .inl rfl, by omega, fun _ => rfl⟩
    simp [termF]
    omega
  · rw [if_neg h]
    have h2 : x.step = 2 := by omega
    exact ⟨hx.t0 h2 hsel, .inr (by have := (hx.nm h2).2; rw [hn] at this; simpa using this.symm), fun _ => rfl, by omega⟩
set_option maxHeartbeats 1000000 in
theorem okv_step (i : Nat) (p : Part) (hN : i ≤ N) (hp : ps[i]? = some p) (hk : 1 ≤ p.kind ∧ p.kind ≤ 10) (hs : scopeAt ps scope i = 2 ∨ scopeAt ps scope i = 3) (s : Int) : GoodV (selB ps scope i) (condStep c ps i s) := by
  have hw := wf_of_shape (shape_of_valid ht.valid)
  have hil := (List.getElem?_eq_some_iff.1 hp).1
  have htx := (part_fits ht hp).2.2.1
  have hnf := (part_fits ht hp).2.2.2.1
  have hcnt := (part_fits ht hp).2.2.2.2
  obtain ⟨t, -, hty⟩ := ht.each i p hp
  unfold condStep
  rw [partAt_nat hp]
  dsimp only
  split
  · exact okv_truth _ _ _
  split
  · next h =>
    obtain ⟨a, ha, -, -⟩ := one_nat ht hp (by omega)
    rw [ha]
    exact okv_kid ht c hc (by omega) hp hs (by omega) (k := a) (by simp [ha]) (1 - s)
  split
  · next h =>
    refine okv_join _ _ (by split <;> simp) _ fun t htm => ?_
    obtain ⟨k, hkm, rfl⟩ := List.mem_map.1 htm
    exact okv_kid ht c hc (by omega) hp hs (by omega) hkm s
  split
  · exact okv_near ht c hc (by omega) hp (by omega) s
  split
  · exact okv_near ht c hc (by omega) hp (by omega) (1 - s)
  split
  · next h10 =>
    have e : scopeAt ps scope i = 2 := by
      rw [typeF, h10] at hty
      simp only [reduceIte, Int.reduceEq, or_self] at hty
      rw [speaksF, if_pos h10] at hty
      have esc : (scopesF ps scope).getD (i : Int).toNat 0 = scopeAt ps scope i := rfl
      rw [esc] at hty
      split at hty
      · cases hty
      · next h => simpa using h
    have e2 : selB ps scope i = true := by simp [selB, e]
    rw [e2]
    exact .lit true _ s fun m => lit_tol p.text htx m
  have h67 : p.kind = 6 ∨ p.kind = 7 := by omega
  have two : ∃ a b : Nat, p.kids = [(a : Int), (b : Int)] ∧ a < i ∧ b < i := by
    have h1 : (p.kids.length : Int) = 2 := by rcases h67 with h | h <;> simpa [kidCountF, h] using hcnt
    replace h1 : p.kids.length = 2 := by omega
    have hkd := hw.kids i p hp
    match hl : p.kids, h1 with
    | [a, b], _ =>
      have h2 := hkd a (by simp [hl])
      have h3 := hkd b (by simp [hl])
      exact ⟨a.toNat, b.toNat, by rw [Int.toNat_of_nonneg h2.1, Int.toNat_of_nonneg h3.1], by omega, by omega⟩
  obtain ⟨a, b, hab, hai, hbi⟩ := two
  have hpa : ps[a]? = some ps[a] := List.getElem?_eq_getElem (by omega)
  have hpb : ps[b]? = some ps[b] := List.getElem?_eq_getElem (by omega)
  obtain ⟨ta, ha1, ha2⟩ := ht.each a _ hpa
  obtain ⟨tb, hb1, hb2⟩ := ht.each b _ hpb
  have hsd : sidesF (ts.take i) i p = none := by
    rw [typeF, if_neg (by omega), if_neg (by omega), if_pos h67] at hty
    exact (orE hty).1
  simp only [sidesF, hab, List.getD_cons_zero, List.getD_cons_succ, movesF, sortAt_take ts (show 0 ≤ (a : Int) by omega) (show (a : Int) < i by omega), sortAt_take ts (show 0 ≤ (b : Int) by omega) (show (b : Int) < i by omega), sideAt_take ts (show 0 ≤ (a : Int) by omega) (show (a : Int) < i by omega), sideAt_take ts (show 0 ≤ (b : Int) by omega) (show (b : Int) < i by omega), sortAt_nat ha1, sortAt_nat hb1, sideAt_nat ha1, sideAt_nat hb1] at hsd
  obtain ⟨s1, s2, s3, s4⟩ := sides_ok hsd h67
  have hmv : ¬((ta.2 = 2 ∨ ta.2 = 3) ∧ (tb.2 = 2 ∨ tb.2 = 3)) := by simpa using s4
  have esa := same_scope ht hp (k := a) (by simp [hab]) (by omega)
  have esb := same_scope ht hp (k := b) (by simp [hab]) (by omega)
  have eba : selB ps scope a = selB ps scope i := by simp [selB, esa]
  have ebb : selB ps scope b = selB ps scope i := by simp [selB, esb]
  have hka := (kind_of_sort ha2 ⟨(part_fits ht hpa).1, (part_fits ht hpa).2.1⟩).1 s1
  obtain ⟨x1, x2, x3, x4, x5⟩ := okv_opd ht c hc (by omega) hpa (by rw [esa]; exact hs) hka ha2
  rw [eba] at x1
  have xn : (opdF c ps a).num = false → ta.1 = 2 := fun h => by rw [x2] at h; simp at h; omega
  split
  · next h6 =>
    obtain ⟨s5, s6⟩ := s2 h6
    have hkb := (kind_of_sort hb2 ⟨(part_fits ht hpb).1, (part_fits ht hpb).2.1⟩).1 (by omega)
    obtain ⟨y1, y2, y3, y4, y5⟩ := okv_opd ht c hc (by omega) hpb (by rw [esb]; exact hs) hkb hb2
    rw [ebb] at y1
    unfold comparedF
    rw [hab]
    simp only [List.getD_cons_zero, List.getD_cons_succ]
    refine okv_compared _ _ x1 y1 (by rw [x2, y2, s5]) (by simpa [numFitsF, h6] using hnf) (fun h => s6 (xn h)) fun h1 h2 => ?_
    have := x4 h1
    have := y4 h2
    omega
  · next h6 =>
    have h7 : p.kind = 7 := by omega
    have s5 := s3 h7
    rw [hab]
    simp only [List.getD_cons_zero, List.getD_cons_succ]
    generalize hsg : (if p.num = 1 then 1 - s else s) = s'
    unfold memberF
    rw [partAt_nat hpb]
    dsimp only
    have esc : (scopesF ps scope).getD (b : Int).toNat 0 = scopeAt ps scope b := rfl
    have keys : ps[b].kind = 16 ∨ ps[b].kind = 17 → (opdF c ps a).num = false ∧ (opdF c ps a).step ≠ 1 ∧ speaksF (scopeAt ps scope b) b ps[b] = .inr tb := fun h => by
      rw [typeF, if_neg (by omega), if_neg (by omega), if_neg (by omega), if_neg (by omega), if_neg (by omega), if_neg (by omega), if_neg (by omega), if_neg (by omega), if_neg (by omega), esc] at hb2
      have h4 : tb.1 = 4 := by
        rcases h with h | h
        · exact (speaks_side hb2 (by omega)).2.2.1 h
        · exact (speaks_node hb2 (by omega)).2.2.2.1 h
      have hn : (opdF c ps a).num = false := by rw [x2]; simp; omega
      refine ⟨hn, fun h1 => ?_, hb2⟩
      have : (opdF c ps a).step = 1 → (opdF c ps a).num = true := by
        unfold opdF opdOf
        dsimp only
        repeat' split
        all_goals simp
      rw [this h1] at hn
      cases hn
    split
    · next h16 =>
      obtain ⟨k1, k2, k3⟩ := keys (.inl h16)
      obtain ⟨h1, h2, -, -⟩ := speaks_side k3 (by omega)
      obtain ⟨q1, q2, q3, q4⟩ := okv_key ht c hc x1 k1 (x5 k1) k2
      rw [esb] at h1
      refine .lit _ _ s' fun m => ?_
      rw [litF_eq rfl (by simp), q1 m, Bool.true_and]
      have hsdn : sideF ps[b].num (!selB ps scope i) = true := side_known hs h1
      have q5 : ps[b].num = 1 ∨ (keyTermF (opdF c ps a)).kind = 1 ∨ (keyTermF (opdF c ps a)).side = 1 := by
        by_cases h0 : (opdF c ps a).step = 0
        · exact .inr (.inl (q4 h0))
        · have h2s : (opdF c ps a).step = 2 := by have := x1.st; omega
          rw [q3 h2s]
          have := x4 h2s
          rcases this with h | h | h
          · exact .inr (.inr h)
          · left; omega
          · left; omega
      simp [restL, restF, hsdn, ofPodF, LitD.zero, eqT_zero, noText_l, q2]
      exact q5
    split
    · next h17 =>
      obtain ⟨k1, k2, k3⟩ := keys (.inr h17)
      obtain ⟨h1, h2, h3, -, -⟩ := speaks_node k3 (by omega)
      obtain ⟨q1, q2, q3, q4⟩ := okv_key ht c hc x1 k1 (x5 k1) k2
      have e2 : selB ps scope i = true := by rw [← ebb]; simp [selB, h1]
      rw [e2] at q1 ⊢
      refine .lit _ _ s' fun m => ?_
      rw [litF_eq rfl (by simp), q1 m, Bool.true_and]
      have q5 : (keyTermF (opdF c ps a)).kind = 1 ∨ (keyTermF (opdF c ps a)).side = 1 := by
        by_cases h0 : (opdF c ps a).step = 0
        · exact .inl (q4 h0)
        · have h2s : (opdF c ps a).step = 2 := by have := x1.st; omega
          rw [q3 h2s]
          have := x4 h2s
          rcases this with h | h | h
          · exact .inr h
          · omega
          · omega
      simp [restL, restF, ofPodF, LitD.zero, eqT_zero, noText_l]
      exact ⟨q2, q5⟩
    next h16 h17 =>
    have h13 : ps[b].kind = 13 := by
      have := (kind_of_sort hb2 ⟨(part_fits ht hpb).1, (part_fits ht hpb).2.1⟩).2 (by omega)
      omega
    rw [typeF, h13] at hb2
    simp only [reduceIte, Int.reduceEq, or_self] at hb2
    refine okv_member _ _ x1 fun e he => ?_
    obtain ⟨k, hkm, rfl⟩ := List.mem_map.1 he
    have hk1 := hw.kids b _ hpb k hkm
    obtain ⟨j, rfl⟩ : ∃ j : Nat, k = j := ⟨k.toNat, by omega⟩
    have hq : ps[j]? = some ps[j] := List.getElem?_eq_getElem (by omega)
    have hkk := hw.kinds b _ hpb j hkm
    rw [kindAt_nat ps j _ hq, h13] at hkk
    have hk2 : ps[j].kind = 11 ∨ ps[j].kind = 12 := by simpa [kidFitsF] using hkk
    obtain ⟨tj, hj1, hj2⟩ := ht.each j _ hq
    have hsj : tj.1 = ta.1 := by
      have h11 : tj.1 = 2 ∨ tj.1 = 3 := by
        rw [typeF] at hj2
        rcases hk2 with h | h <;> simp only [h, reduceIte, Int.reduceEq, or_self] at hj2 <;> cases hj2 <;> simp
      unfold setF at hb2
      cases hl : ps[b].kids with
      | nil => rw [hl] at hkm; cases hkm
      | cons k0 r =>
        rw [hl] at hb2 hkm
        simp only at hb2
        split at hb2
        · cases hb2
        · next hf =>
          have h0 := List.find?_eq_none.1 hf j hkm
          simp only [decide_not, Bool.not_eq_true', decide_eq_false_iff_not, Decidable.not_not, ne_eq] at h0
          rw [sortAt_take ts (by omega) (by omega), sortAt_nat hj1] at h0
          split at hb2
          · next h2 => cases hb2; simp at s5; omega
          · next h2 => cases hb2; simp at s5; omega
    obtain ⟨-, -, htj, hnj, -⟩ := part_fits ht hq
    have e1 : (opdF c ps j).num = decide (ps[j].kind = 12) ∧ (opdF c ps j).text = (if ps[j].kind = 11 then ps[j].text else noText) ∧ (opdF c ps j).n = (if ps[j].kind = 12 then ps[j].num else 0) := by
      unfold opdF opdOf
      rw [partAt_nat hq]
      rcases hk2 with h | h <;> simp [h]
    have e2 : decide (tj.1 = 3) = decide (ps[j].kind = 12) := by
      rw [typeF] at hj2
      rcases hk2 with h | h <;> simp only [h, reduceIte, Int.reduceEq, or_self] at hj2 ⊢ <;> cases hj2 <;> simp
    refine ⟨by rw [e1.1, x2, ← hsj, e2], fun _ => ?_, ?_⟩
    · rw [e1.2.1]
      split
      · exact htj
      · decide
    · rw [e1.2.2]
      split
      · next h => simpa [numFitsF, h, okN] using hnj
      · simp [okN]
end
theorem okv_cond {ps : List Part} {scope : Int} {ts : List (Int × Int)} (ht : Typed ps scope ts) : ∀ (f : Nat) (i : Nat) (p : Part) (s : Int), i < f → ps[i]? = some p → 1 ≤ p.kind ∧ p.kind ≤ 10 → (scopeAt ps scope i = 2 ∨ scopeAt ps scope i = 3) → GoodV (selB ps scope i) (condF ps f i s)
  | 0, _, _, _, h, _, _, _ => by omega
  | f + 1, i, p, s, hf, hp, h, hs => by
    rw [condF]
    exact okv_step ht (condF ps f) (N := f) (fun j q s hj hq hk hs => okv_cond ht f j q s hj hq hk hs) i p (by omega) hp h hs s
end Go.Proofs.YtldnkeackphilaaGreatDoor
namespace Go.Proofs.YtldnkeackphilaaGreatDoor
open Go.RowKit

theorem zero_eq (l : LitD) : isZeroF l = zeroF l := by
  simp only [isZeroF, zeroF, sameF, restF, LitD.zero, noText_l, len0, Bool.not_false, Bool.true_and, Bool.false_or]
  generalize eqT l.other .zero = E
  generalize eqT l.term .zero = E2
  generalize l.key.toList = K
  generalize (l.texts.length == 0) = A
  generalize (l.nums.length == 0) = B
  cases A <;> cases B <;> cases E <;> cases E2 <;> simp <;> grind
theorem step_eq (pods : Bool) (sels : Int) (free : List Int) (p : PartD) : stepOk pods sels free p = (nPartF ⟨sels, !pods⟩ p && decide (p.kids.length ≤ free.length) && (p.kids == free.drop (free.length - p.kids.length))) := by
  simp only [stepOk, nPartF, lit_eq, zero_eq]
  generalize litF p.lit pods sels = F
  generalize zeroF p.lit = Z
  generalize (p.kids == free.drop (free.length - p.kids.length)) = D
  generalize p.kids.length = K
  generalize free.length = M
  generalize p.neg = N
  generalize p.kind = k
  have e1 : (K == 0) = decide (K = 0) := rfl
  simp only [e1]
  have hk : k < 1 ∨ k = 1 ∨ k = 2 ∨ k = 3 ∨ k = 4 ∨ k = 5 ∨ k > 5 := by omega
  rcases hk with h | rfl | rfl | rfl | rfl | rfl | h
  · have h1 : ¬ k = 1 := by omega
    have h2 : ¬ k = 2 := by omega
    have h3 : ¬ k = 3 := by omega
    have h4 : ¬ k = 4 := by omega
    have h5 : ¬ k = 5 := by omega
    simp [h, h1, h2, h3, h4, h5]
  · cases F <;> cases Z <;> cases D <;> cases N <;> simp <;> grind
  · cases F <;> cases Z <;> cases D <;> cases N <;> simp <;> grind
  · cases F <;> cases Z <;> cases D <;> cases N <;> simp <;> grind
  · cases F <;> cases Z <;> cases D <;> cases N <;> simp <;> grind
  · cases F <;> cases Z <;> cases D <;> cases N <;> simp <;> grind
  · have h1 : ¬ k = 1 := by omega
    have h2 : ¬ k = 2 := by omega
    have h3 : ¬ k = 3 := by omega
    have h4 : ¬ k = 4 := by omega
    have h5 : ¬ k = 5 := by omega
    have h6 : 5 < k := h
    simp [h1, h2, h3, h4, h5, h6]
def wtL (l : List PartD) : Nat := (l.map partWt).sum
theorem measF_wt : ∀ (l : List PartD) (n : Nat), (measF l n ≤ 1000) = (n + wtL l ≤ 1000)
  | [], n => by simp [measF, wtL]
  | p :: l, n => by
    rw [measF]
    by_cases h : n ≤ 1000
    · rw [if_pos h, measF_wt l]
      simp [wtL]
      omega
    · rw [if_neg h]
      simp [wtL]
      omega
theorem measF_val : ∀ (l : List PartD) (n : Nat), n + wtL l ≤ 1000 → measF l n = n + wtL l
  | [], n, _ => by simp [measF, wtL]
  | p :: l, n, h => by
    have e : wtL (p :: l) = partWt p + wtL l := by simp [wtL]
    rw [e] at h ⊢
    rw [measF, if_pos (by omega), measF_val l _ (by omega)]
    omega
def wtP (ls : List (List PartD)) : Nat := (ls.map wtL).sum
theorem measP_wt : ∀ (ls : List (List PartD)) (n : Nat), (measP ls n ≤ 1000) = (n + wtP ls ≤ 1000)
  | [], n => by simp [measP, wtP]
  | l :: ls, n => by
    have e : wtP (l :: ls) = wtL l + wtP ls := by simp [wtP]
    rw [measP, e]
    by_cases h : n ≤ 1000
    · rw [if_pos h, measP_wt ls]
      by_cases h2 : wtL l ≤ 1000
      · rw [measF_val l 0 (by omega)]
        apply propext
        omega
      · have h3 : ¬ measF l 0 ≤ 1000 := by rw [measF_wt]; omega
        apply propext
        omega
    · rw [if_neg h]
      apply propext
      omega
theorem measureF_wt (p : PlanD) : (measureF p > 1000) = ¬ (wtL p.main + wtP p.sels ≤ 1000) := by
  have h1 := measP_wt p.sels (measF p.main 0)
  have h2 := measF_wt p.main 0
  apply propext
  unfold measureF
  by_cases h : wtL p.main ≤ 1000
  · rw [measF_val p.main 0 (by omega)] at h1 ⊢
    have h1' : measP p.sels (0 + wtL p.main) ≤ 1000 ↔ 0 + wtL p.main + wtP p.sels ≤ 1000 := by rw [h1]
    split <;> omega
  · have h3 : ¬ measF p.main 0 ≤ 1000 := by rw [h2]; omega
    have h1' : measP p.sels (measF p.main 0) ≤ 1000 ↔ measF p.main 0 + wtP p.sels ≤ 1000 := by rw [h1]
    split <;> omega
theorem plan_eq (p : PlanD) : planOkF p = (decide (wtL p.main + wtP p.sels ≤ 1000) && ((listF p.main false p.sels.length && p.sels.all fun l => listF l true 0) || (decide (p.sels.length = 0) && listF p.main true 0))) := by
  have hall : (List.range p.sels.length).all (selAt p) = p.sels.all fun l => listF l true 0 := by
    rw [Bool.eq_iff_iff, List.all_eq_true, List.all_eq_true]
    constructor
    · intro h l hl
      obtain ⟨i, hi, rfl⟩ := List.mem_iff_getElem.1 hl
      have := h i (List.mem_range.2 hi)
      simpa [selAt, hi] using this
    · intro h i hi
      have hi := List.mem_range.1 hi
      have := h p.sels[i] (List.getElem_mem hi)
      simpa [selAt, hi] using this
  unfold planOkF forF
  rw [hall]
  simp only [measureF_wt]
  generalize wtL p.main + wtP p.sels = W
  generalize hA : (p.sels.all fun l => listF l true 0) = A
  by_cases h0 : p.sels.length = 0
  · have hnil : p.sels = [] := List.length_eq_zero_iff.1 h0
    have hA' : A = true := by rw [← hA, hnil]; rfl
    subst hA'
    rw [h0]
    generalize listF p.main false ((0 : Nat) : Int) = B
    have e : ((0 : Nat) : Int) = 0 := rfl
    rw [e]
    generalize listF p.main true 0 = C
    by_cases hw : W ≤ 1000 <;> simp [hw] <;> cases B <;> cases C <;> rfl
  · have hpos : 0 < p.sels.length := by omega
    have h0' : ¬ p.sels = [] := fun h => h0 (by rw [h]; rfl)
    by_cases hw : W ≤ 1000 <;> simp [hw, hpos, h0, h0']
end Go.Proofs.YtldnkeackphilaaGreatDoor
namespace Go.Proofs.YtldnkeackphilaaGreatDoor.X
open Go.RowKit

set_option maxRecDepth 8000
theorem leaf_cs (k : Int) : treeA (.leaf k) = .ptr (treeCs k false .zero [] (.imm (.pointer none))) := by rw [Tr.leaf, tree_mk, selA_none]
theorem truth_h (b : Bool) (s : Int) : Has Tryz.prog 59 [bA b, iA s] (treeA (truthF b s)) noTok := by
  refine fnX mixed ⟨[0, 1, 4, 8], [10, 12], [], [], []⟩ Tryz.func59 rfl rfl rfl (by kernel_rfl) (by simp) ?_
  simp
  constructor
  · intro h
    rw [truthF, if_pos h, leaf_cs]
    simp [treeCs, strsA, intsA, LitD.zero, TermD.zero, noText]
  · intro h
    rw [truthF, if_neg h, leaf_cs]
    simp [treeCs, strsA, intsA, LitD.zero, TermD.zero, noText]
theorem other_h (s : Int) (h : 0 ≤ s ∧ s ≤ 1) : Has Tryz.prog 60 [iA s] (iA (1 - s)) noTok := by
  refine fnX mixed ⟨[0, 2], [], [], [], []⟩ Tryz.func60 rfl rfl rfl (by kernel_rfl) rfl ?_
  simp
  exact wrap64 (by omega) (by omega)
theorem literal_h (l : LitD) (s : Int) : Hs Tryz.prog 63 [.agg (litCs l), iA s] [] (.ref 2000 0) [] [(2000, .box 170 (treeCs 5 (s == 1) l [] (.imm (.pointer none))))] := by
  refine hsX mixed ⟨[0, 1, 2, 4], [2, 9], [], [], []⟩ [] [] [.slot 4 2000] Tryz.func63 rfl rfl rfl (by kernel_rfl) rfl ?_
  simp [treeCs, litCs, strsA, intsA]
def leftF (drop : Int) (kids : List Tr) (i : Nat) : List Tr := (kids.take i).filter fun t => decide (t.kind ≠ drop)
theorem left_next {drop : Int} {kids : List Tr} {i : Nat} {t : Tr} (h : kids[i]? = some t) : leftF drop kids (i + 1) = leftF drop kids i ++ if t.kind = drop then [] else [t] := by
  simp only [leftF, List.take_add_one, h, Option.toList_some, List.filter_append, List.filter_cons, List.filter_nil]
  by_cases e : t.kind = drop <;> simp [e]
theorem left_le (drop : Int) (kids : List Tr) (i : Nat) : (leftF drop kids i).length ≤ kids.length := by
  refine Nat.le_trans (List.length_filter_le _ _) ?_
  simp
  omega
set_option maxHeartbeats 1000000 in
theorem joined_h (kind : Int) (kids : List Tr) (hl : kids.length ≤ 100000) : Has Tryz.prog 61 [iA kind, .sl (kids.map fun t => [treeA t])] (treeA (joinF kind kids)) noTok := by
  refine fnX mixed ⟨[0, 1, 4, 5, 6, 7, 9, 11, 12, 13, 14, 15, 23, 32, 39, 40, 45], [7, 26, 35, 36, 44, 53], [], [], []⟩ Tryz.func61 rfl rfl rfl (by kernel_rfl) (by simp) ?_
  simp
  obtain ⟨drop, hd⟩ : ∃ d : Int, d = if kind = 4 then 2 else 1 := ⟨_, rfl⟩
  obtain ⟨win, hw⟩ : ∃ d : Int, d = if kind = 4 then 1 else 2 := ⟨_, rfl⟩
  have hJ : joinF kind kids = if kids.any (fun t => decide (t.kind = win)) then .leaf win else
      match leftF drop kids kids.length with
      | [] => .leaf drop
      | [t] => t
      | l => .mk kind false .zero l none := by
    simp only [joinF, ← hd, ← hw, leftF, List.take_length]
    rfl
  refine ⟨fun hk => ?_, fun hk => ?_⟩
  all_goals
    simp [hk] at hd hw
    refine wF_loop [.slot 7 7 99] [.slot 7 7] [0, 1, 4, 5, 6, 7, 12, 13, 14] (fun i : Nat => St.asc [(0, iA kind), (1, .sl (kids.map fun t => [treeA t])), (4, .imm (.pointer none)), (5, iA drop), (6, iA win), (7, .rw 7 0 (leftF drop kids i).length), (12, .sl (kids.map fun t => [treeA t])), (13, iA kids.length), (14, iA i)]
      [(7, .row 99 ((leftF drop kids i).map fun t => [treeA t]))] [(7, true)] false) (fun i => i ≤ kids.length ∧ kids.any (fun t => decide (t.kind = win)) = (kids.drop i).any (fun t => decide (t.kind = win))) (fun i => kids.length - i) 0 _ (by simp) (by simp [leftF, hk, hd, hw]) (by simp) ?_
    rintro i ⟨hi, hno⟩
    by_cases h : i < kids.length
    · have hx : kids[i]? = some kids[i] := List.getElem?_eq_getElem h
      rw [List.drop_eq_getElem_cons h, List.any_cons] at hno
      have hL := left_next (drop := drop) hx
      have hle := left_le drop kids i
      generalize kids[i] = t at *
      have h1 : IntKind.i64.wrap ((i : Int) + 1) = (i : Int) + 1 := wrap64 (by omega) (by omega)
      have hlen : List.take (leftF drop kids i).length (List.map (fun t => [treeA t]) (leftF drop kids i)) = List.map (fun t => [treeA t]) (leftF drop kids i) := List.take_of_length_le (by simp)
      simp [hx, h, treeCs, h1, hlen, -getElem?_pos]
      refine ⟨fun hwin => ?_, fun hnw => ⟨fun hnd => ⟨⟨by omega, by omega⟩, i + 1, ?_, ⟨by omega, ?_⟩, by omega⟩, fun hdr => ⟨i + 1, ?_, ⟨by omega, ?_⟩, by omega⟩⟩⟩
      · rw [hJ, hno, if_pos (by simp [hwin]), leaf_cs]
        simp [treeCs, strsA, intsA, LitD.zero, TermD.zero, noText]
      · simp [hL, hnd]
      · rw [hno]; simp [hnw]
      · simp [hL, hdr]
      · rw [hno]; simp [hnw]
    · obtain rfl : i = kids.length := by omega
      have hlen : List.take (leftF drop kids kids.length).length (List.map (fun t => [treeA t]) (leftF drop kids kids.length)) = List.map (fun t => [treeA t]) (leftF drop kids kids.length) := List.take_of_length_le (by simp)
      rw [List.drop_length] at hno
      rw [hno] at hJ
      simp only [List.any_nil, Bool.false_eq_true, if_false] at hJ
      generalize leftF drop kids kids.length = L at *
      rcases L with _ | ⟨t, _ | ⟨t2, r⟩⟩
      · simp
        simp only [hJ]
        rw [leaf_cs]
        simp [treeCs, strsA, intsA, LitD.zero, TermD.zero, noText]
      · simp
        simp only [hJ]
      · have hr : List.take r.length (List.map (fun t => [treeA t]) r) = List.map (fun t => [treeA t]) r := List.take_of_length_le (by simp)
        simp [hr]
        refine ⟨fun h => by omega, fun _ => ⟨fun h => by omega, fun _ => ?_⟩⟩
        simp only [hJ]
        rw [tree_mk]
        simp [treeCs, strsA, intsA, LitD.zero, TermD.zero, noText, selA_none]
end Go.Proofs.YtldnkeackphilaaGreatDoor.X
namespace Go.Proofs.YtldnkeackphilaaGreatDoor.X
open Go.RowKit

set_option maxRecDepth 8000
set_option maxHeartbeats 2000000 in
theorem nList_h (lk : LookD) (l : List PartD) (hl : FitsL l) : Has Tryz.prog 36 [lookA lk, partsA l] (bA (listF l (!lk.node) lk.sels)) noTok := by
  refine fnX mixed ⟨[0, 1, 4, 5, 6, 7, 8, 9, 10, 13, 14, 15, 16, 17, 32, 40, 41, 42, 43, 54], [5, 7, 60, 61], [], [], []⟩ Tryz.func36 rfl rfl rfl (by kernel_rfl) rfl ?_
  obtain ⟨pods, hpods⟩ : ∃ b, b = !lk.node := ⟨_, rfl⟩
  have hse : ∀ free p, stepOk pods lk.sels free p = (nPartF lk p && decide (p.kids.length ≤ free.length) && (p.kids == free.drop (free.length - p.kids.length))) := fun free p => by
    rw [step_eq, hpods]; simp
  rw [← hpods]
  simp [partsA, lookA]
  refine ⟨fun h0 => by subst h0; rfl, fun h0 => ?_⟩
  refine wF_loop [.slot 5 5 3] [.slot 5 5] [0, 5, 14, 15, 16] (fun x : Nat × List Int => St.asc [(0, lookA lk), (5, .rw 5 0 x.2.length), (14, .sl (l.map partCs)), (15, iA l.length), (16, iA x.1)] [(5, .row 3 (x.2.map fun n => [iA n]))] [(5, true)] false)
    (fun x => x.1 ≤ l.length ∧ x.2.length ≤ x.1 ∧ freeF pods lk.sels (l.drop x.1) x.1 x.2 = freeF pods lk.sels l 0 []) (fun x => l.length - x.1) (0, []) _ (by simp) (by simp [lookA]) (by simp) ?_
  rintro ⟨i, free⟩ ⟨hi, hn, hm⟩
  have hlen := hl.len
  simp only at hi hn hm
  have hfr : List.take free.length (List.map (fun n => [iA n]) free) = List.map (fun n => [iA n]) free := List.take_of_length_le (by simp)
  by_cases h : i < l.length
  · have hx : l[i]? = some l[i] := List.getElem?_eq_getElem h
    have hf := hl.each l[i] (List.getElem_mem h)
    rw [drop_at hx, freeF] at hm
    obtain ⟨x, ex⟩ : ∃ x, x = l[i] := ⟨_, rfl⟩
    rw [← ex] at hx hf hm
    clear ex
    have h1 : IntKind.i64.wrap ((i : Int) + 1) = (i : Int) + 1 := wrap64 (by omega) (by omega)
    have hbad : stepOk pods lk.sels free x = false → listF l pods lk.sels = false := fun hb => by
      rw [hb] at hm
      simp only [listF, ← hm]
      rfl
    have h2 : IntKind.i64.wrap ((free.length : Int) - x.kids.length) = (free.length : Int) - x.kids.length := by
      have := hf.2
      exact wrap64 (by omega) (by omega)
    simp [hx, h, partCs, strsA, intsA, lookA, -getElem?_pos]
    refine callP_of (nPart_h lk x hf.1) (by simp) (by simp) ?_
    simp [h2, -getElem?_pos]
    refine ⟨fun hb => hbad ?_, fun b1 b2 => ?_⟩
    · rw [hse]
      rcases hb with hb | hb
      · simp [hb]
      · have : ¬ x.kids.length ≤ free.length := by omega
        simp [this]
    have hk := hf.2
    refine wF_loop [] [.slot 5 5, .slot 7 7] [0, 5, 6, 7, 8, 14, 15, 16, 40, 41, 42] (fun j : Nat => St.asc [(0, lookA lk), (5, .rw 5 0 free.length), (6, iA i), (7, .ref 7 0), (8, iA ((free.length : Int) - x.kids.length)), (14, .sl (l.map partCs)), (15, iA l.length), (16, iA i), (40, .sl (x.kids.map fun n => [iA n])), (41, iA x.kids.length), (42, iA j)] [(5, .row 3 (free.map fun n => [iA n])), (7, .box 63 (partCs x))] [(5, true), (7, true)] false)
      (fun j => j ≤ x.kids.length ∧ x.kids.take j = (free.drop (free.length - x.kids.length)).take j) (fun j => x.kids.length - j) 0 _ (by simp) (by simp [h2, partCs, strsA, intsA, lookA]) (by simp) ?_
    rintro j ⟨hj, hjm⟩
    by_cases hjl : j < x.kids.length
    · have hy : x.kids[j]? = some x.kids[j] := List.getElem?_eq_getElem hjl
      have hz : free[free.length - x.kids.length + j]? = some free[free.length - x.kids.length + j] := List.getElem?_eq_getElem (by omega)
      obtain ⟨y, ey⟩ : ∃ y, y = x.kids[j] := ⟨_, rfl⟩
      obtain ⟨z, ez⟩ : ∃ z, z = free[free.length - x.kids.length + j] := ⟨_, rfl⟩
      rw [← ey] at hy
      rw [← ez] at hz
      have h3 : IntKind.i64.wrap ((free.length : Int) - x.kids.length + j) = (free.length : Int) - x.kids.length + j := wrap64 (by omega) (by omega)
      have h4 : ((free.length : Int) - x.kids.length + j).toNat = free.length - x.kids.length + j := by omega
      have h5 : IntKind.i64.wrap ((j : Int) + 1) = (j : Int) + 1 := wrap64 (by omega) (by omega)
      have hzd : (free.drop (free.length - x.kids.length))[j]? = some z := by rw [List.getElem?_drop]; exact hz
      simp [partCs, strsA, intsA, lookA, hjl, hy, hz, hfr, h3, h4, h5, -getElem?_pos]
      refine ⟨⟨by omega, by omega⟩, by omega, fun hne => hbad ?_, fun he => ⟨j + 1, rfl, ⟨by omega, ?_⟩, by omega⟩⟩
      · have : (x.kids == free.drop (free.length - x.kids.length)) = false := by
          rw [Bool.eq_false_iff]
          intro hc
          have hc := eq_of_beq hc
          rw [← hc, hy] at hzd
          injection hzd with hzd
          exact hne hzd
        rw [hse, this, Bool.and_false]
      · rw [List.take_add_one, List.take_add_one, hjm, hy, hzd, he]
    · have : j = x.kids.length := by omega
      subst this
      have h6 : ((free.length : Int) - x.kids.length).toNat = free.length - x.kids.length := by omega
      have hkd : x.kids = free.drop (free.length - x.kids.length) := by
        rw [List.take_length, List.take_of_length_le (by rw [List.length_drop]; omega)] at hjm
        exact hjm
      have hgood : stepOk pods lk.sels free x = true := by
        rw [hse, ← hkd]
        simp [b1, b2]
      rw [if_pos hgood] at hm
      simp [partCs, strsA, intsA, lookA, h1, h6, hfr, -getElem?_pos]
      refine ⟨⟨by omega, by omega⟩, ⟨by omega, by omega⟩, i + 1, stepF free i x, ?_, ⟨by omega, by simp [stepF]; omega, hm⟩, by omega⟩
      simp [stepF]
  · have : i = l.length := by omega
    subst this
    rw [List.drop_length] at hm
    simp
    rw [listF, ← hm]
    simp [freeF]
    rw [Bool.eq_iff_iff]
    simp
    omega
end Go.Proofs.YtldnkeackphilaaGreatDoor.X
namespace Go.Proofs.YtldnkeackphilaaGreatDoor.X
open Go.RowKit

def walkF : List PartD → Nat → Nat
  | [], m => m
  | p :: l, m => if 1000 < m then m else walkF l (m + (p.lit.texts.length + p.lit.nums.length))
set_option maxRecDepth 8000
set_option maxHeartbeats 1000000 in
theorem add_h (l : List PartD) (hl : FitsL l) (n : Nat) (hn : n ≤ 1000000000) : Hs Tryz.prog 57 [partsA l, .ref 1000 0] [(1000, .box 3 [iA n])] (bA (decide (walkF l (n + l.length) ≤ 1000))) [1000] [(1000, .box 3 [iA (walkF l (n + l.length))])] := by
  refine hsX mixed ⟨[0, 1, 3, 5, 10, 11, 12, 13, 17], [1000, 5], [], [], [1000]⟩ [] [] [.keep 1000] Tryz.func57 rfl rfl rfl (by kernel_rfl) rfl ?_
  have hlen := hl.len
  have hw0 : IntKind.i64.wrap ((n : Int) + l.length) = (n : Int) + l.length := wrap64 (by omega) (by omega)
  simp [partsA, hw0]
  refine wF_loop [] [.keep 1000] [1, 10, 11, 12] (fun x : Nat × Nat => St.asc [(1, .ref 1000 0), (10, .sl (l.map partCs)), (11, iA l.length), (12, iA x.1)] [(1000, .box 3 [iA x.2])] [(1000, true)] false)
    (fun x => x.1 ≤ l.length ∧ x.2 ≤ 1000000000 + 4398046511104 + 1000 + 70368744176129 ∧ walkF (l.drop x.1) x.2 = walkF l (n + l.length)) (fun x => l.length - x.1) (0, n + l.length) _ (by simp) (by simp) (by simp; omega) ?_
  rintro ⟨i, m⟩ ⟨hi, hm, hr⟩
  simp only at hi hm hr
  by_cases h : i < l.length
  · have hx : l[i]? = some l[i] := List.getElem?_eq_getElem h
    have hf := (hl.each l[i] (List.getElem_mem h)).1
    rw [drop_at hx, walkF] at hr
    obtain ⟨x, ex⟩ : ∃ x, x = l[i] := ⟨_, rfl⟩
    rw [← ex] at hx hf hr
    clear ex
    have h1 : IntKind.i64.wrap ((i : Int) + 1) = (i : Int) + 1 := wrap64 (by omega) (by omega)
    have f1 := hf.1
    have f2 := hf.2
    have h2 : IntKind.i64.wrap ((x.lit.texts.length : Int) + x.lit.nums.length) = (x.lit.texts.length : Int) + x.lit.nums.length := wrap64 (by omega) (by omega)
    have h3 : IntKind.i64.wrap ((m : Int) + ((x.lit.texts.length : Int) + x.lit.nums.length)) = (m : Int) + ((x.lit.texts.length : Int) + x.lit.nums.length) := wrap64 (by omega) (by omega)
    simp [hx, h, partCs, strsA, intsA, h1, h2, h3, -getElem?_pos]
    refine ⟨fun hb => ?_, fun hb => ⟨i + 1, m + (x.lit.texts.length + x.lit.nums.length), by simp, ⟨by omega, by omega, ?_⟩, by omega⟩⟩
    · rw [if_pos (by omega)] at hr
      rw [← hr]
      exact ⟨by omega, rfl⟩
    · rw [if_neg (by omega)] at hr
      exact hr
  · have : i = l.length := by omega
    subst this
    rw [List.drop_length, walkF] at hr
    rw [← hr]
    simp
    omega
end Go.Proofs.YtldnkeackphilaaGreatDoor.X
