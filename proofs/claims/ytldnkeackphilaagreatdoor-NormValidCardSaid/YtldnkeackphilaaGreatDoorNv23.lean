/- norm: what cond makes, in plain Lean. -/
import Derived.Test.YtldnkeackphilaaGreatDoorNv21
import Derived.Test.YtldnkeackphilaaGreatDoorNv22
set_option linter.unusedSimpArgs false
set_option linter.unusedVariables false
namespace Go.Proofs.YtldnkeackphilaaGreatDoor

def partAt (ps : List Part) (k : Int) : Part := ps.getD k.toNat ⟨0, noText, 0, []⟩
def nearF (c : Int → Int → Tr) (p : Part) (s : Int) : Tr :=
  let sel := c (p.kids.headD 0) 0
  if sel.kind = 2 then truthF false s else .lit { LitD.zero with kind := 7, key := p.text } s (some sel)
def opdOf (c : Int → Int → Tr) (ps : List Part) (p : Part) : OpdD :=
  if p.kind = 11 then ⟨0, false, p.text, 0, .zero, none⟩
  else if p.kind = 12 then ⟨0, true, noText, p.num, .zero, none⟩
  else if p.kind = 14 then ⟨2, false, noText, 0, ⟨2, p.num, p.text, 0⟩, none⟩
  else if p.kind = 15 then ⟨2, false, noText, 0, ⟨3, p.num, noText, 0⟩, none⟩
  else if p.kind = 18 then ⟨2, true, noText, 0, ⟨5, 0, p.text, 0⟩, none⟩
  else if p.kind = 20 then ⟨2, true, noText, 0, ⟨6, 0, p.text, 0⟩, some (c (p.kids.headD 0) 0)⟩
  else
    let q := partAt ps (p.kids.headD 0)
    if q.kind = 14 then ⟨2, true, noText, 0, ⟨4, q.num, q.text, 0⟩, none⟩
    else match intF q.text with
      | none => ⟨1, true, noText, 0, .zero, none⟩
      | some n => ⟨0, true, noText, n, .zero, none⟩
def opdF (c : Int → Int → Tr) (ps : List Part) (k : Int) : OpdD := opdOf c ps (partAt ps k)
def comparedX (a b : OpdD) (num : Int) (s0 : Int) : Tr :=
  let cmp := if num = 2 then 1 else num
  let s := if num = 2 then 1 - s0 else s0
  if a.step = 1 ∨ b.step = 1 then truthF false s
  else if a.step = 0 ∧ b.step = 0 then truthF (standsF a b cmp) s
  else if a.step = 0 then againstF b a (turnF cmp) s
  else if b.step = 0 then againstF a b cmp s
  else if a.term.side = 1 ∧ b.term.side ≠ 1 then .lit { LitD.zero with kind := 3, term := b.term, rel := turnF cmp, other := a.term } s b.sel
  else .lit { LitD.zero with kind := 3, term := a.term, rel := cmp, other := b.term } s a.sel
def comparedF (o : Int → OpdD) (p : Part) (s0 : Int) : Tr := comparedX (o (p.kids.getD 0 0)) (o (p.kids.getD 1 0)) p.num s0
def textsOf (es : List OpdD) : List ByteArray := (es.filter fun e => !e.num).map (·.text)
def numsOf (es : List OpdD) : List Int := (es.filter (·.num)).map (·.n)
/-- Is the one of these? -/
def memberX (x : OpdD) (es : List OpdD) (s : Int) : Tr :=
  if es = [] ∨ x.step = 1 then truthF false s
  else if x.step = 0 then truthF (es.any fun e => standsF x e 1) s
  else .lit { LitD.zero with kind := 1, term := x.term, texts := compactS (sortedS (textsOf es)), nums := Lib.compact (sortedI (numsOf es)) } s x.sel
def memberF (c : Int → Int → Tr) (ps : List Part) (k j : Int) (s : Int) : Tr :=
  let p := partAt ps j
  if p.kind = 16 then .lit { LitD.zero with kind := 4, term := keyTermF (opdF c ps k), of_ := p.num } s none
  else if p.kind = 17 then .lit { LitD.zero with kind := 5, term := keyTermF (opdF c ps k) } s none
  else memberX (opdF c ps k) (p.kids.map (opdF c ps)) s
def condStep (c : Int → Int → Tr) (ps : List Part) (k : Int) (s : Int) : Tr :=
  let p := partAt ps k
  if p.kind = 1 ∨ p.kind = 2 then truthF (p.kind == 1) s
  else if p.kind = 3 then c (p.kids.headD 0) (1 - s)
  else if p.kind = 4 ∨ p.kind = 5 then joinF (if (p.kind == 4) = (s == 0) then 3 else 4) (p.kids.map fun k => c k s)
  else if p.kind = 8 then nearF c p s
  else if p.kind = 9 then nearF c p (1 - s)
  else if p.kind = 10 then .lit { LitD.zero with kind := 6, key := p.text } s none
  else if p.kind = 6 then comparedF (opdF c ps) p s
  else memberF c ps (p.kids.getD 0 0) (p.kids.getD 1 0) (if p.num = 1 then 1 - s else s)
/-- What cond makes of the part k with the sign s; f rounds suffice where k < f. -/
def condF (ps : List Part) : Nat → Int → Int → Tr
  | 0, _, _ => .leaf 0
  | f + 1, k, s => condStep (condF ps f) ps k s
/-- May the part be a side of a comparison? -/
def sideK (k : Int) : Prop := k = 11 ∨ k = 12 ∨ k = 14 ∨ k = 15 ∨ k = 18 ∨ k = 20 ∨ k = 19
/-- A tree of the right form, its comparisons between sides. -/
structure TT (ps : List Part) : Prop where
  wf : WF ps
  cnt : ∀ (i : Nat) p, ps[i]? = some p → p.kids.length ≤ 1000
  cmp : ∀ (i : Nat) p, ps[i]? = some p → p.kind = 6 → sideK (partAt ps (p.kids.getD 0 0)).kind ∧ sideK (partAt ps (p.kids.getD 1 0)).kind
  mem : ∀ (i : Nat) p, ps[i]? = some p → p.kind = 7 → sideK (partAt ps (p.kids.getD 0 0)).kind ∧ ((partAt ps (p.kids.getD 1 0)).kind = 13 ∨ (partAt ps (p.kids.getD 1 0)).kind = 16 ∨ (partAt ps (p.kids.getD 1 0)).kind = 17)
theorem partAt_nat {ps : List Part} {k : Nat} {p : Part} (h : ps[k]? = some p) : partAt ps k = p := by simp [partAt, List.getD_eq_getElem?_getD, h]
/-- A tree's part as values, the parts, the maker. -/
def pCs (p : Part) : List AV := [iA p.kind, sA p.text, iA p.num, intsA p.kids]
def psA (ps : List Part) : AV := .sl (ps.map pCs)
def mkA (ps : List Part) : AV := .ptr [psA ps]
end Go.Proofs.YtldnkeackphilaaGreatDoor
/- norm's functions by the linear calculus: trees. -/
namespace Go.Proofs.YtldnkeackphilaaGreatDoor.X
open Go.RowKit

set_option maxRecDepth 8000
theorem mixed : Tryz.prog.follows .mixedOrders = true := by kernel_rfl
/-- A leaf's cells. -/
theorem leaf_cs (k : Int) : treeA (.leaf k) = .ptr (treeCs k false .zero [] (.imm (.pointer none))) := by rw [Tr.leaf, tree_mk, selA_none]
theorem truth_h (b : Bool) (s : Int) : Has Tryz.prog 59 [bA b, iA s] (treeA (truthF b s)) noTok := by
  refine fnX mixed ⟨[0, 1, 4, 8], [10, 12], [], [], []⟩ Tryz.func59 rfl rfl rfl (by kernel_rfl) (by simp) ?_
  simp
  constructor
  · intro h
    rw [truthF, if_pos h, leaf_cs]
    simp [treeCs, strsA, intsA, LitD.zero, TermD.zero, noText]
  · intro h
    rw [truthF, if_neg h, leaf_cs]
    simp [treeCs, strsA, intsA, LitD.zero, TermD.zero, noText]
theorem other_h (s : Int) (h : 0 ≤ s ∧ s ≤ 1) : Has Tryz.prog 60 [iA s] (iA (1 - s)) noTok := by
  refine fnX mixed ⟨[0, 2], [], [], [], []⟩ Tryz.func60 rfl rfl rfl (by kernel_rfl) rfl ?_
  simp
  exact wrap64 (by omega) (by omega)
/-- A literal, a tree of one's own. -/
theorem literal_h (l : LitD) (s : Int) : Hs Tryz.prog 63 [.agg (litCs l), iA s] [] (.ref 2000 0) [] [(2000, .box 170 (treeCs 5 (s == 1) l [] (.imm (.pointer none))))] := by
  refine hsX mixed ⟨[0, 1, 2, 4], [2, 9], [], [], []⟩ [] [] [.slot 4 2000] Tryz.func63 rfl rfl rfl (by kernel_rfl) rfl ?_
  simp [treeCs, litCs, strsA, intsA]
/-- What joined has left behind the first i. -/
def leftF (drop : Int) (kids : List Tr) (i : Nat) : List Tr := (kids.take i).filter fun t => decide (t.kind ≠ drop)
theorem left_next {drop : Int} {kids : List Tr} {i : Nat} {t : Tr} (h : kids[i]? = some t) : leftF drop kids (i + 1) = leftF drop kids i ++ if t.kind = drop then [] else [t] := by
  simp only [leftF, List.take_add_one, h, Option.toList_some, List.filter_append, List.filter_cons, List.filter_nil]
  by_cases e : t.kind = drop <;> simp [e]
theorem left_le (drop : Int) (kids : List Tr) (i : Nat) : (leftF drop kids i).length ≤ kids.length := by
  refine Nat.le_trans (List.length_filter_le _ _) ?_
  simp
  omega
set_option maxHeartbeats 1000000 in
theorem joined_h (kind : Int) (kids : List Tr) (hl : kids.length ≤ 100000) : Has Tryz.prog 61 [iA kind, .sl (kids.map fun t => [treeA t])] (treeA (joinF kind kids)) noTok := by
  refine fnX mixed ⟨[0, 1, 4, 5, 6, 7, 9, 11, 12, 13, 14, 15, 23, 32, 39, 40, 45], [7, 26, 35, 36, 44, 53], [], [], []⟩ Tryz.func61 rfl rfl rfl (by kernel_rfl) (by simp) ?_
  simp
  obtain ⟨drop, hd⟩ : ∃ d : Int, d = if kind = 4 then 2 else 1 := ⟨_, rfl⟩
  obtain ⟨win, hw⟩ : ∃ d : Int, d = if kind = 4 then 1 else 2 := ⟨_, rfl⟩
  have hJ : joinF kind kids = if kids.any (fun t => decide (t.kind = win)) then .leaf win else
      match leftF drop kids kids.length with
      | [] => .leaf drop
      | [t] => t
      | l => .mk kind false .zero l none := by
    simp only [joinF, ← hd, ← hw, leftF, List.take_length]
    rfl
  refine ⟨fun hk => ?_, fun hk => ?_⟩
  all_goals
    simp [hk] at hd hw
    refine wF_loop [.slot 7 7 99] [.slot 7 7] [0, 1, 4, 5, 6, 7, 12, 13, 14] (fun i : Nat => St.asc [(0, iA kind), (1, .sl (kids.map fun t => [treeA t])), (4, .imm (.pointer none)), (5, iA drop), (6, iA win), (7, .rw 7 0 (leftF drop kids i).length), (12, .sl (kids.map fun t => [treeA t])), (13, iA kids.length), (14, iA i)]
      [(7, .row 99 ((leftF drop kids i).map fun t => [treeA t]))] [(7, true)] false) (fun i => i ≤ kids.length ∧ kids.any (fun t => decide (t.kind = win)) = (kids.drop i).any (fun t => decide (t.kind = win))) (fun i => kids.length - i) 0 _ (by simp) (by simp [leftF, hk, hd, hw]) (by simp) ?_
    rintro i ⟨hi, hno⟩
    by_cases h : i < kids.length
    · have hx : kids[i]? = some kids[i] := List.getElem?_eq_getElem h
      rw [List.drop_eq_getElem_cons h, List.any_cons] at hno
      have hL := left_next (drop := drop) hx
      have hle := left_le drop kids i
      generalize kids[i] = t at *
      have h1 : IntKind.i64.wrap ((i : Int) + 1) = (i : Int) + 1 := wrap64 (by omega) (by omega)
      have hlen : List.take (leftF drop kids i).length (List.map (fun t => [treeA t]) (leftF drop kids i)) = List.map (fun t => [treeA t]) (leftF drop kids i) := List.take_of_length_le (by simp)
      simp [hx, h, treeCs, h1, hlen, -getElem?_pos]
      refine ⟨fun hwin => ?_, fun hnw => ⟨fun hnd => ⟨⟨by omega, by omega⟩, i + 1, ?_, ⟨by omega, ?_⟩, by omega⟩, fun hdr => ⟨i + 1, ?_, ⟨by omega, ?_⟩, by omega⟩⟩⟩
      · rw [hJ, hno, if_pos (by simp [hwin]), leaf_cs]
        simp [treeCs, strsA, intsA, LitD.zero, TermD.zero, noText]
      · simp [hL, hnd]
      · rw [hno]; simp [hnw]
      · simp [hL, hdr]
      · rw [hno]; simp [hnw]
    · obtain rfl : i = kids.length := by omega
      have hlen : List.take (leftF drop kids kids.length).length (List.map (fun t => [treeA t]) (leftF drop kids kids.length)) = List.map (fun t => [treeA t]) (leftF drop kids kids.length) := List.take_of_length_le (by simp)
      rw [List.drop_length] at hno
      rw [hno] at hJ
      simp only [List.any_nil, Bool.false_eq_true, if_false] at hJ
      generalize leftF drop kids kids.length = L at *
      rcases L with _ | ⟨t, _ | ⟨t2, r⟩⟩
      · simp
        simp only [hJ]
        rw [leaf_cs]
        simp [treeCs, strsA, intsA, LitD.zero, TermD.zero, noText]
      · simp
        simp only [hJ]
      · have hr : List.take r.length (List.map (fun t => [treeA t]) r) = List.map (fun t => [treeA t]) r := List.take_of_length_le (by simp)
        simp [hr]
        refine ⟨fun h => by omega, fun _ => ⟨fun h => by omega, fun _ => ?_⟩⟩
        simp only [hJ]
        rw [tree_mk]
        simp [treeCs, strsA, intsA, LitD.zero, TermD.zero, noText, selA_none]
end Go.Proofs.YtldnkeackphilaaGreatDoor.X
/- norm.looker.list by the linear calculus. -/
namespace Go.Proofs.YtldnkeackphilaaGreatDoor.X
open Go.RowKit

set_option maxRecDepth 8000
set_option maxHeartbeats 2000000 in
theorem nList_h (lk : LookD) (l : List PartD) (hl : FitsL l) : Has Tryz.prog 36 [lookA lk, partsA l] (bA (listF l (!lk.node) lk.sels)) noTok := by
  refine fnX mixed ⟨[0, 1, 4, 5, 6, 7, 8, 9, 10, 13, 14, 15, 16, 17, 32, 40, 41, 42, 43, 54], [5, 7, 60, 61], [], [], []⟩ Tryz.func36 rfl rfl rfl (by kernel_rfl) rfl ?_
  obtain ⟨pods, hpods⟩ : ∃ b, b = !lk.node := ⟨_, rfl⟩
  have hse : ∀ free p, stepOk pods lk.sels free p = (nPartF lk p && decide (p.kids.length ≤ free.length) && (p.kids == free.drop (free.length - p.kids.length))) := fun free p => by
    rw [step_eq, hpods]; simp
  rw [← hpods]
  simp [partsA, lookA]
  refine ⟨fun h0 => by subst h0; rfl, fun h0 => ?_⟩
  refine wF_loop [.slot 5 5 3] [.slot 5 5] [0, 5, 14, 15, 16] (fun x : Nat × List Int => St.asc [(0, lookA lk), (5, .rw 5 0 x.2.length), (14, .sl (l.map partCs)), (15, iA l.length), (16, iA x.1)] [(5, .row 3 (x.2.map fun n => [iA n]))] [(5, true)] false)
    (fun x => x.1 ≤ l.length ∧ x.2.length ≤ x.1 ∧ freeF pods lk.sels (l.drop x.1) x.1 x.2 = freeF pods lk.sels l 0 []) (fun x => l.length - x.1) (0, []) _ (by simp) (by simp [lookA]) (by simp) ?_
  rintro ⟨i, free⟩ ⟨hi, hn, hm⟩
  have hlen := hl.len
  simp only at hi hn hm
  have hfr : List.take free.length (List.map (fun n => [iA n]) free) = List.map (fun n => [iA n]) free := List.take_of_length_le (by simp)
  by_cases h : i < l.length
  · have hx : l[i]? = some l[i] := List.getElem?_eq_getElem h
    have hf := hl.each l[i] (List.getElem_mem h)
    rw [drop_at hx, freeF] at hm
    obtain ⟨x, ex⟩ : ∃ x, x = l[i] := ⟨_, rfl⟩
    rw [← ex] at hx hf hm
    clear ex
    have h1 : IntKind.i64.wrap ((i : Int) + 1) = (i : Int) + 1 := wrap64 (by omega) (by omega)
    have hbad : stepOk pods lk.sels free x = false → listF l pods lk.sels = false := fun hb => by
      rw [hb] at hm
      simp only [listF, ← hm]
      rfl
    have h2 : IntKind.i64.wrap ((free.length : Int) - x.kids.length) = (free.length : Int) - x.kids.length := by
      have := hf.2
      exact wrap64 (by omega) (by omega)
    simp [hx, h, partCs, strsA, intsA, lookA, -getElem?_pos]
    refine callP_of (nPart_h lk x hf.1) (by simp) (by simp) ?_
    simp [h2, -getElem?_pos]
    refine ⟨fun hb => hbad ?_, fun b1 b2 => ?_⟩
    · rw [hse]
      rcases hb with hb | hb
      · simp [hb]
      · have : ¬ x.kids.length ≤ free.length := by omega
        simp [this]
    have hk := hf.2
    refine wF_loop [] [.slot 5 5, .slot 7 7] [0, 5, 6, 7, 8, 14, 15, 16, 40, 41, 42] (fun j : Nat => St.asc [(0, lookA lk), (5, .rw 5 0 free.length), (6, iA i), (7, .ref 7 0), (8, iA ((free.length : Int) - x.kids.length)), (14, .sl (l.map partCs)), (15, iA l.length), (16, iA i), (40, .sl (x.kids.map fun n => [iA n])), (41, iA x.kids.length), (42, iA j)] [(5, .row 3 (free.map fun n => [iA n])), (7, .box 63 (partCs x))] [(5, true), (7, true)] false)
      (fun j => j ≤ x.kids.length ∧ x.kids.take j = (free.drop (free.length - x.kids.length)).take j) (fun j => x.kids.length - j) 0 _ (by simp) (by simp [h2, partCs, strsA, intsA, lookA]) (by simp) ?_
    rintro j ⟨hj, hjm⟩
    by_cases hjl : j < x.kids.length
    · have hy : x.kids[j]? = some x.kids[j] := List.getElem?_eq_getElem hjl
      have hz : free[free.length - x.kids.length + j]? = some free[free.length - x.kids.length + j] := List.getElem?_eq_getElem (by omega)
      obtain ⟨y, ey⟩ : ∃ y, y = x.kids[j] := ⟨_, rfl⟩
      obtain ⟨z, ez⟩ : ∃ z, z = free[free.length - x.kids.length + j] := ⟨_, rfl⟩
      rw [← ey] at hy
      rw [← ez] at hz
      have h3 : IntKind.i64.wrap ((free.length : Int) - x.kids.length + j) = (free.length : Int) - x.kids.length + j := wrap64 (by omega) (by omega)
      have h4 : ((free.length : Int) - x.kids.length + j).toNat = free.length - x.kids.length + j := by omega
      have h5 : IntKind.i64.wrap ((j : Int) + 1) = (j : Int) + 1 := wrap64 (by omega) (by omega)
      have hzd : (free.drop (free.length - x.kids.length))[j]? = some z := by rw [List.getElem?_drop]; exact hz
      simp [partCs, strsA, intsA, lookA, hjl, hy, hz, hfr, h3, h4, h5, -getElem?_pos]
      refine ⟨⟨by omega, by omega⟩, by omega, fun hne => hbad ?_, fun he => ⟨j + 1, rfl, ⟨by omega, ?_⟩, by omega⟩⟩
      · have : (x.kids == free.drop (free.length - x.kids.length)) = false := by
          rw [Bool.eq_false_iff]
          intro hc
          have hc := eq_of_beq hc
          rw [← hc, hy] at hzd
          injection hzd with hzd
          exact hne hzd
        rw [hse, this, Bool.and_false]
      · rw [List.take_add_one, List.take_add_one, hjm, hy, hzd, he]
    · have : j = x.kids.length := by omega
      subst this
      have h6 : ((free.length : Int) - x.kids.length).toNat = free.length - x.kids.length := by omega
      have hkd : x.kids = free.drop (free.length - x.kids.length) := by
        rw [List.take_length, List.take_of_length_le (by rw [List.length_drop]; omega)] at hjm
        exact hjm
      have hgood : stepOk pods lk.sels free x = true := by
        rw [hse, ← hkd]
        simp [b1, b2]
      rw [if_pos hgood] at hm
      simp [partCs, strsA, intsA, lookA, h1, h6, hfr, -getElem?_pos]
      refine ⟨⟨by omega, by omega⟩, ⟨by omega, by omega⟩, i + 1, stepF free i x, ?_, ⟨by omega, by simp [stepF]; omega, hm⟩, by omega⟩
      simp [stepF]
  · have : i = l.length := by omega
    subst this
    rw [List.drop_length] at hm
    simp
    rw [listF, ← hm]
    simp [freeF]
    rw [Bool.eq_iff_iff]
    simp
    omega
end Go.Proofs.YtldnkeackphilaaGreatDoor.X
/- norm.measured by the linear calculus. -/
namespace Go.Proofs.YtldnkeackphilaaGreatDoor.X
open Go.RowKit

/-- What measured's counter has come to. -/
def walkF : List PartD → Nat → Nat
  | [], m => m
  | p :: l, m => if 1000 < m then m else walkF l (m + (p.lit.texts.length + p.lit.nums.length))
set_option maxRecDepth 8000
set_option maxHeartbeats 1000000 in
theorem add_h (l : List PartD) (hl : FitsL l) (n : Nat) (hn : n ≤ 1000000000) : Hs Tryz.prog 57 [partsA l, .ref 1000 0] [(1000, .box 3 [iA n])] (bA (decide (walkF l (n + l.length) ≤ 1000))) [1000] [(1000, .box 3 [iA (walkF l (n + l.length))])] := by
  refine hsX mixed ⟨[0, 1, 3, 5, 10, 11, 12, 13, 17], [1000, 5], [], [], [1000]⟩ [] [] [.keep 1000] Tryz.func57 rfl rfl rfl (by kernel_rfl) rfl ?_
  have hlen := hl.len
  have hw0 : IntKind.i64.wrap ((n : Int) + l.length) = (n : Int) + l.length := wrap64 (by omega) (by omega)
  simp [partsA, hw0]
  refine wF_loop [] [.keep 1000] [1, 10, 11, 12] (fun x : Nat × Nat => St.asc [(1, .ref 1000 0), (10, .sl (l.map partCs)), (11, iA l.length), (12, iA x.1)] [(1000, .box 3 [iA x.2])] [(1000, true)] false)
    (fun x => x.1 ≤ l.length ∧ x.2 ≤ 1000000000 + 4398046511104 + 1000 + 70368744176129 ∧ walkF (l.drop x.1) x.2 = walkF l (n + l.length)) (fun x => l.length - x.1) (0, n + l.length) _ (by simp) (by simp) (by simp; omega) ?_
  rintro ⟨i, m⟩ ⟨hi, hm, hr⟩
  simp only at hi hm hr
  by_cases h : i < l.length
  · have hx : l[i]? = some l[i] := List.getElem?_eq_getElem h
    have hf := (hl.each l[i] (List.getElem_mem h)).1
    rw [drop_at hx, walkF] at hr
    obtain ⟨x, ex⟩ : ∃ x, x = l[i] := ⟨_, rfl⟩
    rw [← ex] at hx hf hr
    clear ex
    have h1 : IntKind.i64.wrap ((i : Int) + 1) = (i : Int) + 1 := wrap64 (by omega) (by omega)
    have f1 := hf.1
    have f2 := hf.2
    have h2 : IntKind.i64.wrap ((x.lit.texts.length : Int) + x.lit.nums.length) = (x.lit.texts.length : Int) + x.lit.nums.length := wrap64 (by omega) (by omega)
    have h3 : IntKind.i64.wrap ((m : Int) + ((x.lit.texts.length : Int) + x.lit.nums.length)) = (m : Int) + ((x.lit.texts.length : Int) + x.lit.nums.length) := wrap64 (by omega) (by omega)
    simp [hx, h, partCs, strsA, intsA, h1, h2, h3, -getElem?_pos]
    refine ⟨fun hb => ?_, fun hb => ⟨i + 1, m + (x.lit.texts.length + x.lit.nums.length), by simp, ⟨by omega, by omega, ?_⟩, by omega⟩⟩
    · rw [if_pos (by omega)] at hr
      rw [← hr]
      exact ⟨by omega, rfl⟩
    · rw [if_neg (by omega)] at hr
      exact hr
  · have : i = l.length := by omega
    subst this
    rw [List.drop_length, walkF] at hr
    rw [← hr]
    simp
    omega
end Go.Proofs.YtldnkeackphilaaGreatDoor.X
/- norm.measured, whole. -/

namespace Go.Proofs.YtldnkeackphilaaGreatDoor.X
open Go.RowKit

theorem walk_le : ∀ (l : List PartD) (m : Nat), (walkF l m ≤ 1000 ↔ m + (l.map fun p => p.lit.texts.length + p.lit.nums.length).sum ≤ 1000) ∧ (walkF l m ≤ 1000 → walkF l m = m + (l.map fun p => p.lit.texts.length + p.lit.nums.length).sum)
  | [], m => by simp [walkF]
  | p :: l, m => by
    have ih := walk_le l (m + (p.lit.texts.length + p.lit.nums.length))
    rw [walkF]
    simp only [List.map_cons, List.sum_cons]
    split
    · constructor
      · constructor <;> intro h <;> omega
      · intro h; omega
    · constructor
      · rw [ih.1]; omega
      · intro h; rw [ih.2 h]; omega
theorem wtL_sum : ∀ l : List PartD, wtL l = l.length + (l.map fun p => p.lit.texts.length + p.lit.nums.length).sum
  | [] => by simp [wtL]
  | p :: l => by
    have := wtL_sum l
    simp only [wtL, List.map_cons, List.sum_cons, List.length_cons, partWt] at *
    omega
theorem walk_wt (l : List PartD) (n : Nat) : (walkF l (n + l.length) ≤ 1000 ↔ n + wtL l ≤ 1000) ∧ (walkF l (n + l.length) ≤ 1000 → walkF l (n + l.length) = n + wtL l) := by
  have := walk_le l (n + l.length)
  rw [wtL_sum]
  constructor
  · rw [this.1]; omega
  · intro h; rw [this.2 h]; omega
set_option maxRecDepth 8000
set_option maxHeartbeats 1000000 in
theorem measured_h (p : PlanD) (hp : FitsP p) : Has Tryz.prog 35 [.agg (planCs p)] (bA (decide (wtL p.main + wtP p.sels ≤ 1000))) noTok := by
  refine fnX mixed ⟨[0, 1, 2, 3, 4, 6, 12, 14, 15, 16, 17, 23], [1, 3], [], [], []⟩ Tryz.func35 rfl rfl rfl (by kernel_rfl) rfl ?_
  have hA := add_h p.main hp.main 0 (by omega)
  have hw := walk_wt p.main 0
  rw [Nat.zero_add] at hA hw
  unfold partsA at hA
  obtain ⟨m, em⟩ : ∃ m, m = walkF p.main p.main.length := ⟨_, rfl⟩
  rw [← em] at hA hw
  simp [planCs, partsA, selsA]
  refine callH_of [(1000, 3)] [] hA (by simp) (by simp) (by simp) ?_
  simp
  have hlen := hp.len
  refine ⟨fun hb => by omega, fun hb => ?_⟩
  refine wF_loop [] [.slot 3 3] [3, 4, 14, 15, 16] (fun x : Nat × Nat => St.asc [(3, .ref 3 0), (4, .fnc 57 [.ref 3 0]), (14, .sl (p.sels.map fun x => [.sl (x.map partCs)])), (15, iA p.sels.length), (16, iA x.1)] [(3, .box 3 [iA x.2])] [(3, true)] false)
    (fun x => x.1 ≤ p.sels.length ∧ x.2 ≤ 1000 ∧ x.2 + wtP (p.sels.drop x.1) = wtL p.main + wtP p.sels) (fun x => p.sels.length - x.1) (0, m) _ (by simp) (by simp) (by simp; omega) ?_
  rintro ⟨i, k⟩ ⟨hi, hk, hr⟩
  simp only at hi hk hr
  by_cases h : i < p.sels.length
  · have hx : p.sels[i]? = some p.sels[i] := List.getElem?_eq_getElem h
    have hf := hp.each p.sels[i] (List.getElem_mem h)
    rw [drop_at hx] at hr
    have hcons : ∀ (y : List PartD) (r : List (List PartD)), wtP (y :: r) = wtL y + wtP r := fun y r => by simp [wtP]
    rw [hcons] at hr
    obtain ⟨x, ex⟩ : ∃ x, x = p.sels[i] := ⟨_, rfl⟩
    rw [← ex] at hx hf hr
    clear ex
    have h1 : IntKind.i64.wrap ((i : Int) + 1) = (i : Int) + 1 := wrap64 (by omega) (by omega)
    have hB := add_h x hf k (by omega)
    have hv := walk_wt x k
    unfold partsA at hB
    obtain ⟨j, ej⟩ : ∃ j, j = walkF x (k + x.length) := ⟨_, rfl⟩
    rw [← ej] at hB hv
    simp [hx, h, -getElem?_pos]
    refine callH_of [(1000, 3)] [] hB (by simp) (by simp) (by simp) ?_
    simp [h1]
    refine ⟨fun hb => by omega, fun hb => ⟨i + 1, j, by simp, ⟨by omega, hb, ?_⟩, by omega⟩⟩
    have := hv.2 hb
    omega
  · have : i = p.sels.length := by omega
    subst this
    rw [List.drop_length] at hr
    simp [wtP] at hr ⊢
    apply decide_eq_true
    omega
end Go.Proofs.YtldnkeackphilaaGreatDoor.X
/- norm.Valid. -/

namespace Go.Proofs.YtldnkeackphilaaGreatDoor.X
open Go.RowKit

set_option maxRecDepth 8000
set_option maxHeartbeats 1000000 in
theorem nValid_aux (p : PlanD) (hp : FitsP p) (res : Bool) (hr : Hid (res = (decide (wtL p.main + wtP p.sels ≤ 1000) && ((listF p.main false p.sels.length && p.sels.all fun l => listF l true 0) || (decide (p.sels.length = 0) && listF p.main true 0))))) : Has Tryz.prog 12 [.agg (planCs p)] (bA res) noTok := by
  refine fnX mixed ⟨[0, 1, 2, 3, 5, 8, 18, 19, 20, 21], [1, 13, 27, 40], [], [], []⟩ Tryz.func12 rfl rfl rfl (by kernel_rfl) rfl ?_
  have hlen := hp.len
  simp [planCs, partsA, selsA]
  refine callP_of (measured_h p hp) (by simp) (by simp) ?_
  simp
  refine ⟨fun hb => ?_, fun hb => ?_⟩
  · rw [hr.out, decide_eq_false (by omega)]; rfl
  have h1 := nList_h ⟨p.sels.length, true⟩ p.main hp.main
  simp only [partsA, lookA] at h1
  refine callP_of h1 (by simp) (by simp) ?_
  simp
  refine wF_loop [] [.slot 1 1] [1, 3, 18, 19, 20] (fun i : Nat => St.asc [(1, .ref 1 0), (3, bA (listF p.main false p.sels.length && (p.sels.take i).all fun l => listF l true 0)), (18, .sl (p.sels.map fun x => [.sl (x.map partCs)])), (19, iA p.sels.length), (20, iA i)] [(1, .box 25 [.sl (p.main.map partCs), .sl (p.sels.map fun x => [.sl (x.map partCs)])])] [(1, true)] false)
    (fun i => i ≤ p.sels.length) (fun i => p.sels.length - i) 0 _ (by simp) (by simp) (by simp) ?_
  intro i hi
  by_cases h : i < p.sels.length
  · have hx : p.sels[i]? = some p.sels[i] := List.getElem?_eq_getElem h
    have htk : p.sels.take (i + 1) = p.sels.take i ++ [p.sels[i]] := by rw [List.take_add_one, hx]; rfl
    have hf := hp.each p.sels[i] (List.getElem_mem h)
    obtain ⟨x, ex⟩ : ∃ x, x = p.sels[i] := ⟨_, rfl⟩
    rw [← ex] at hx hf htk
    have h1 : IntKind.i64.wrap ((i : Int) + 1) = (i : Int) + 1 := wrap64 (by omega) (by omega)
    obtain ⟨b, eb⟩ : ∃ b, b = (listF p.main false p.sels.length && (p.sels.take i).all fun l => listF l true 0) := ⟨_, rfl⟩
    rw [← eb]
    have h2 := nList_h ⟨0, false⟩ x hf
    simp only [partsA, lookA] at h2
    cases b
    · simp [hx, h, h1, -getElem?_pos]
      refine ⟨i + 1, ?_, by omega, by omega⟩
      rw [htk, List.all_append, ← Bool.and_assoc, ← eb]
      simp
    · simp [hx, h, h1, -getElem?_pos]
      refine .inr ?_
      refine callP_of h2 (by simp) (by simp) ?_
      simp [h1]
      refine ⟨i + 1, ?_, by omega, by omega⟩
      rw [htk, List.all_append, ← Bool.and_assoc, ← eb]
      simp
  · have : i = p.sels.length := by omega
    subst this
    rw [List.take_length]
    have hL := nList_h ⟨0, false⟩ p.main hp.main
    simp only [partsA, lookA] at hL
    have hr2 := hr.out
    have hle : decide (wtL p.main + wtP p.sels ≤ 1000) = true := decide_eq_true (by omega)
    rw [hle, Bool.true_and] at hr2
    generalize hc : (listF p.main false p.sels.length && p.sels.all fun l => listF l true 0) = c at *
    clear hr
    cases c
    · by_cases hz : p.sels.length = 0
      · have hz2 : ((p.sels.length : Int) == 0) = true := by simp [hz]
        simp [hz2]
        refine .inr ?_
        refine callP_of hL (by simp) (by simp) ?_
        simp
        rw [hr2]
        simp [hz]
      · have hz2 : ((p.sels.length : Int) == 0) = false := by simpa using hz
        simp [hz2]
        rw [hr2]
        simp [hz]
    · by_cases hz : p.sels.length = 0
      · have hz2 : ((p.sels.length : Int) == 0) = true := by simp [hz]
        simp [hz2]
        rw [hr2]
        simp
      · have hz2 : ((p.sels.length : Int) == 0) = false := by simpa using hz
        simp [hz2]
        rw [hr2]
        simp
theorem nValid_h (p : PlanD) (hp : FitsP p) : Has Tryz.prog 12 [.agg (planCs p)] (bA (planOkF p)) noTok := nValid_aux p hp _ (Lib.hid (plan_eq p))
end Go.Proofs.YtldnkeackphilaaGreatDoor.X
/- norm's functions by the linear calculus: comparisons. -/
namespace Go.Proofs.YtldnkeackphilaaGreatDoor.X
open Go.RowKit

set_option maxRecDepth 8000
theorem turned_h (c : Int) : Has Tryz.prog 103 [iA c] (iA (turnF c)) noTok := by
  refine fnX mixed ⟨[0, 2, 3, 4, 6, 8, 10], [], [], [], []⟩ Tryz.func103 rfl rfl rfl (by kernel_rfl) rfl ?_
  simp
  refine ⟨?_, fun h1 => ⟨?_, fun h2 => ⟨?_, fun h3 => ⟨?_, ?_⟩⟩⟩⟩ <;> intro h <;> simp_all [turnF]
theorem text_eq (a b : ByteArray) : (a.toList = b.toList) ↔ a = b := ⟨fun h => data_inj (by rw [← Lib.toList_data, ← Lib.toList_data]; exact h), fun h => h ▸ rfl⟩
theorem stands_h (a b : OpdD) (c : Int) : Has Tryz.prog 101 [.agg a.cs, .agg b.cs, iA c] (bA (standsF a b c)) noTok := by
  refine fnX mixed ⟨[0, 1, 2, 3, 4, 6, 7, 8, 22, 29, 36], [3, 4], [], [], []⟩ Tryz.func101 rfl rfl rfl (by kernel_rfl) rfl ?_
  simp [OpdD.cs, text_eq]
  refine ⟨?_, fun h1 => ⟨?_, fun h2 => ⟨?_, fun h3 => ⟨?_, ?_⟩⟩⟩⟩ <;> intro h <;> simp_all [standsF] <;> rfl
@[simp] theorem lit_refsL (l : LitD) : refsL (litCs l) = [] := by simp [litCs, strsA, intsA]
@[simp] theorem tree_refsL (k : Int) (n : Bool) (l : LitD) (kids : List Tr) (sel : AV) : refsL (treeCs k n l kids sel) = refsA sel := by simp [treeCs, strsA, intsA]
theorem near_h (p : Part) (k : Int) (r : List Int) (hk : p.kids = k :: r) (ps : List Part) (s : Int) (T : Tr) (hT : Has Tryz.prog 38 [mkA ps, iA k, iA 0] (treeA T) noTok) :
    Has Tryz.prog 62 [mkA ps, .agg (pCs p), iA s] (treeA (if T.kind = 2 then truthF false s else .lit { LitD.zero with kind := 7, key := p.text } s (some T))) noTok := by
  refine fnX mixed ⟨[0, 1, 2, 4, 6, 7, 8, 19], [4, 26], [], [], []⟩ Tryz.func62 rfl rfl rfl (by kernel_rfl) (by simp) ?_
  simp [pCs, hk, intsA, psA, mkA]
  refine callP_of hT (by simp) (by simp) ?_
  simp [treeCs]
  refine ⟨fun h => ?_, fun h => ?_⟩
  · refine callP_of (truth_h false s) (by simp) (by simp) ?_
    simp [h]
  · refine callH_of [] [(2000, 26)] (literal_h { LitD.zero with kind := 7, key := p.text } s) (by simp [litCs, LitD.zero, TermD.zero, noText, strsA, intsA]) (by simp) (by simp) ?_
    simp [treeCs, strsA, intsA]
    simp [h, Tr.lit, tree_mk, treeCs, selA_some, strsA, intsA]
theorem against_h (t c : OpdD) (cmp s : Int) (hn : -1000000000000000000 ≤ c.n ∧ c.n ≤ 1000000000000000000) : Has Tryz.prog 102 [.agg t.cs, .agg c.cs, iA cmp, iA s] (treeA (againstF t c cmp s)) noTok := by
  refine fnX mixed ⟨[0, 1, 2, 3, 4, 5, 8, 9, 10, 16, 17, 23, 32, 35, 38, 45], [4, 5, 9, 26, 30, 54], [(5, [5]), (9, [9]), (40, [5]), (43, [9]), (44, [9]), (47, [5]), (50, [9]), (51, [9])], [(16, [26, 30])], []⟩ Tryz.func102 rfl rfl rfl (by kernel_rfl) (by simp) ?_
  have w1 : IntKind.i64.wrap (c.n - 1) = c.n - 1 := wrap64 (by omega) (by omega)
  have w2 : IntKind.i64.wrap (c.n + 1) = c.n + 1 := wrap64 (by omega) (by omega)
  simp [OpdD.cs, w1, w2]
  refine ⟨fun h1 => ⟨fun hn => ?_, fun hn => ?_⟩, fun h1 => ⟨fun h2 => ?_, fun h2 => ⟨fun h3 => ?_, fun h3 => ⟨fun h4 => ?_, fun h4 => ⟨fun h5 => ?_, fun h5 => ?_⟩⟩⟩⟩⟩
  all_goals
    refine callH_of [] [(2000, 54)] (literal_h (againstL t c cmp) s) (by simp [*, againstL, litCs, LitD.zero, TermD.zero, noText, strsA, intsA]) (by simp) (by simp) ?_
    simp [treeCs, strsA, intsA]
    simp [againstF, Tr.lit, tree_mk, treeCs, strsA, intsA]
end Go.Proofs.YtldnkeackphilaaGreatDoor.X
/- norm's functions by the linear calculus: operands. -/
namespace Go.Proofs.YtldnkeackphilaaGreatDoor.X
open Go.RowKit

set_option maxRecDepth 8000
/-- A function that leaves the world as it is. -/
theorem has_same {P : Program} {f : FuncId} {fn : Func} {c : Code} {args : List AV} {a : AV} (hf : P.funcs[f]? = some fn) (hb : fn.body = some c) (hn : (fn.name == "runtime.NumGoroutine") = false) (ha : a.final = true)
    (h : ∀ G w (vals : Array Value), vals.size = args.length → (∀ (i : Nat) v b, vals[i]? = some v → args[i]? = some b → RS G v b) → ∃ v, (Calls P f vals w fun e w' => e = .returned v ∧ w' = w) ∧ RS G v a) : Has P f args a noTok := by
  refine ⟨ha, fun vals w => enters_of hf hb hn vals w, fun G w vals hc hl hv => ?_⟩
  obtain ⟨v, h1, h2⟩ := h G w vals hl hv
  refine h1.mono ?_
  rintro e w' ⟨rfl, rfl⟩
  refine ⟨v, G, noOm, rfl, ⟨⟨rfl, hc, fun g p hp => (by cases hp), fun t => ?_, fun t k E hE => ?_⟩, fun t k E hE => ?_⟩, .refl _ _ _⟩
  · by_cases ht : t = 0
    · subst ht
      exact .sh h2
    · have : (Go.Proofs.YtldnkeackphilaaGreatDoor.St.one a noTok).val t = .dead := by simp [Go.Proofs.YtldnkeackphilaaGreatDoor.St.one, ht]
      rw [this]
      exact .dead _
  · simp [Go.Proofs.YtldnkeackphilaaGreatDoor.St.one, noTok] at hE
  · simp [Go.Proofs.YtldnkeackphilaaGreatDoor.St.one, noTok] at hE
theorem int_h (s : ByteArray) (hs : s.size ≤ 9223372036854775807) : Has Tryz.prog 167 [sA s] (.tup [iA ((intF s).getD 0), bA (intF s).isSome]) noTok := by
  refine has_same Tryz.func167 rfl rfl rfl fun G w vals hl hv => ?_
  obtain ⟨l⟩ := vals
  match l, hl with
  | [v], _ =>
    have h0 := hv 0 v (sA s) rfl rfl
    cases h0
    refine ⟨_, int_c s w hs, .tup _ _ rfl fun j v a h1 h2 => ?_⟩
    match j with
    | 0 => cases h1; cases h2; exact .imm _ rfl
    | 1 => cases h1; cases h2; exact .imm _ rfl
    | j + 2 => simp at h1
set_option maxHeartbeats 1000000 in
theorem operand_h (ps : List Part) (c : Int → Int → Tr) (k : Nat) (p : Part) (hp : ps[k]? = some p) (hs : sideK p.kind)
    (h20 : p.kind = 20 → ∃ (i : Int) (r : List Int), p.kids = i :: r ∧ Has Tryz.prog 38 [mkA ps, iA i, iA 0] (treeA (c i 0)) noTok)
    (h19 : p.kind = 19 → ∃ (i : Nat) (r : List Int) (q : Part), p.kids = (i : Int) :: r ∧ ps[i]? = some q ∧ q.text.size ≤ 1000) :
    Has Tryz.prog 100 [mkA ps, iA k] (.agg (opdF c ps k).cs) noTok := by
  refine fnX mixed ⟨[0, 1, 4, 5, 6, 7, 8, 9, 20, 21, 26, 31, 38, 43, 49, 73, 87], [4, 5, 7], [(4, [4]), (5, [5]), (7, [7]), (51, [5]), (55, [5]), (65, [5])], [], []⟩ Tryz.func100 rfl rfl rfl (by kernel_rfl) (by simp [OpdD.cs]) ?_
  have hl : k < ps.length := (List.getElem?_eq_some_iff.1 hp).1
  have hg : ps[k] = p := by simpa [List.getElem?_eq_getElem hl] using hp
  have hF : opdF c ps k = opdOf c ps p := by simp [opdF, partAt_nat hp]
  rw [hF]
  rcases hs with h | h | h | h | h | h | h
  · simp [mkA, psA, hp, hl, pCs, h, opdOf, OpdD.cs, TermD.zero, noText, selA_none, -getElem?_pos]
  · simp [mkA, psA, hp, hl, pCs, h, opdOf, OpdD.cs, TermD.zero, noText, selA_none, -getElem?_pos]
  · simp [mkA, psA, hp, hl, pCs, h, opdOf, OpdD.cs, TermD.zero, noText, selA_none, -getElem?_pos]
  · simp [mkA, psA, hp, hl, pCs, h, opdOf, OpdD.cs, TermD.zero, noText, selA_none, -getElem?_pos]
  · simp [mkA, psA, hp, hl, pCs, h, opdOf, OpdD.cs, TermD.zero, noText, selA_none, -getElem?_pos]
  · obtain ⟨i, r, hk, hc⟩ := h20 h
    simp [mkA, psA, hp, hl, pCs, h, opdOf, OpdD.cs, TermD.zero, noText, selA_none, hk, intsA, hg]
    refine callP_of hc (by simp) (by simp) ?_
    simp [selA_some]
  · obtain ⟨i, r, q, hk, hq, ht⟩ := h19 h
    have hql : i < ps.length := (List.getElem?_eq_some_iff.1 hq).1
    have hqg : ps[i] = q := by simpa [List.getElem?_eq_getElem hql] using hq
    have hqq : partAt ps i = q := partAt_nat hq
    simp [mkA, psA, hp, hl, pCs, h, opdOf, OpdD.cs, TermD.zero, noText, selA_none, hk, intsA, hq, hql, hqq, hqg, hg]
    refine ⟨fun h14 => by simp [h14, selA_none], fun h14 => ?_⟩
    refine callP_of (int_h q.text (by omega)) (by simp) (by simp) ?_
    rcases hi : intF q.text with _ | n <;> simp [h, hk, hqq, h14, hi, selA_none]
end Go.Proofs.YtldnkeackphilaaGreatDoor.X
/- norm's functions by the linear calculus: a comparison. -/
namespace Go.Proofs.YtldnkeackphilaaGreatDoor.X
open Go.RowKit

set_option maxRecDepth 8000
def inR (x : OpdD) : Prop := -1000000000000000000 ≤ x.n ∧ x.n ≤ 1000000000000000000
/-- What compared answers, its comparison and sign made even. -/
def comparedY (a b : OpdD) (m s : Int) : Tr :=
  if a.step = 1 ∨ b.step = 1 then truthF false s
  else if a.step = 0 ∧ b.step = 0 then truthF (standsF a b m) s
  else if a.step = 0 then againstF b a (turnF m) s
  else if b.step = 0 then againstF a b m s
  else if a.term.side = 1 ∧ b.term.side ≠ 1 then .lit { LitD.zero with kind := 3, term := b.term, rel := turnF m, other := a.term } s b.sel
  else .lit { LitD.zero with kind := 3, term := a.term, rel := m, other := b.term } s a.sel
theorem comparedX_else (a b : OpdD) {n : Int} (h : ¬n = 2) (s : Int) : comparedX a b n s = comparedY a b n s := by simp only [comparedX, if_neg h]; rfl
set_option maxHeartbeats 2000000 in
theorem compared_aux (kind : Int) (text : ByteArray) (num i j : Int) (ps : List Part) (s : Int) (hs : 0 ≤ s ∧ s ≤ 1) (a b : OpdD) (ha : Has Tryz.prog 100 [mkA ps, iA i] (.agg a.cs) noTok) (hb : Has Tryz.prog 100 [mkA ps, iA j] (.agg b.cs) noTok) (ra : inR a) (rb : inR b) (res : Tr) (hr : Hid (res = comparedX a b num s)) :
    Has Tryz.prog 64 [mkA ps, .agg [iA kind, sA text, iA num, .sl [[iA i], [iA j]]], iA s] (treeA res) noTok := by
  refine fnX mixed ⟨[0, 1, 2, 4, 6, 7, 8, 9, 10, 14, 29, 40, 55, 65, 83], [4, 8, 9, 95], [(4, [4]), (8, [8]), (9, [9]), (18, [4]), (24, [4])], [], []⟩ Tryz.func64 rfl rfl rfl (by kernel_rfl) (by simp) ?_
  simp [psA, mkA]
  refine ⟨fun h2 => ?_, fun h2 => ?_⟩
  · refine callP_of (other_h s hs) (by simp) (by simp) ?_
    replace hr : Hid (res = comparedY a b 1 (1 - s)) := by rw [hr.out, h2]; rfl
    simp
    refine callP_of ha (by simp) (by simp [OpdD.cs]) ?_
    simp [OpdD.cs]
    refine callP_of hb (by simp) (by simp [OpdD.cs]) ?_
    simp [OpdD.cs]
    refine ⟨fun e1 => ?_, fun na nb => ⟨fun e2 e2' => ?_, fun e2 => ⟨fun e3 => ?_, fun e3 => ⟨fun e4 => ?_, fun e4 => ⟨fun e5 e5' => ?_, fun e5 => ?_⟩⟩⟩⟩⟩
    · refine callP_of (truth_h false _) (by simp) (by simp) ?_
      simp [hr.out, comparedY, e1]
    · refine callP_of (stands_h a b _) (by simp) (by simp) ?_
      simp
      refine callP_of (truth_h _ _) (by simp) (by simp) ?_
      simp [hr.out, comparedY, na, nb, e2, e2']
    · refine callP_of (turned_h _) (by simp) (by simp) ?_
      simp
      refine callP_of (against_h b a _ _ ra) (by simp) (by simp) ?_
      simp [hr.out, comparedY, na, nb, e3, e2 e3]
    · refine callP_of (against_h a b _ _ rb) (by simp) (by simp) ?_
      simp [hr.out, comparedY, na, nb, e3, e4]
    · refine callP_of (turned_h _) (by simp) (by simp) ?_
      simp
      refine callH_of [] [(2000, 95)] (literal_h { LitD.zero with kind := 3, term := b.term, rel := turnF 1, other := a.term } (1 - s)) (by simp [litCs, LitD.zero, TermD.zero, noText, strsA, intsA]) (by simp) (by simp) ?_
      simp [treeCs, strsA, intsA]
      simp [hr.out, comparedY, na, nb, e3, e4, e5, e5', Tr.lit, tree_mk, treeCs, strsA, intsA]
    · refine callH_of [] [(2000, 95)] (literal_h { LitD.zero with kind := 3, term := a.term, rel := 1, other := b.term } (1 - s)) (by simp [litCs, LitD.zero, TermD.zero, noText, strsA, intsA]) (by simp) (by simp) ?_
      simp [treeCs, strsA, intsA]
      simp [hr.out, comparedY, na, nb, e3, e4, Tr.lit, tree_mk, treeCs, strsA, intsA]
      rw [if_neg (by intro h; exact h.2 (e5 h.1)), tree_mk]
      simp [treeCs, strsA, intsA]
  · replace hr : Hid (res = comparedY a b num s) := by rw [hr.out, comparedX_else a b h2]; rfl
    refine callP_of ha (by simp) (by simp [OpdD.cs]) ?_
    simp [OpdD.cs]
    refine callP_of hb (by simp) (by simp [OpdD.cs]) ?_
    simp [OpdD.cs]
    refine ⟨fun e1 => ?_, fun na nb => ⟨fun e2 e2' => ?_, fun e2 => ⟨fun e3 => ?_, fun e3 => ⟨fun e4 => ?_, fun e4 => ⟨fun e5 e5' => ?_, fun e5 => ?_⟩⟩⟩⟩⟩
    · refine callP_of (truth_h false _) (by simp) (by simp) ?_
      simp [hr.out, comparedY, e1]
    · refine callP_of (stands_h a b _) (by simp) (by simp) ?_
      simp
      refine callP_of (truth_h _ _) (by simp) (by simp) ?_
      simp [hr.out, comparedY, na, nb, e2, e2']
    · refine callP_of (turned_h _) (by simp) (by simp) ?_
      simp
      refine callP_of (against_h b a _ _ ra) (by simp) (by simp) ?_
      simp [hr.out, comparedY, na, nb, e3, e2 e3]
    · refine callP_of (against_h a b _ _ rb) (by simp) (by simp) ?_
      simp [hr.out, comparedY, na, nb, e3, e4]
    · refine callP_of (turned_h _) (by simp) (by simp) ?_
      simp
      refine callH_of [] [(2000, 95)] (literal_h { LitD.zero with kind := 3, term := b.term, rel := turnF num, other := a.term } s) (by simp [litCs, LitD.zero, TermD.zero, noText, strsA, intsA]) (by simp) (by simp) ?_
      simp [treeCs, strsA, intsA]
      simp [hr.out, comparedY, na, nb, e3, e4, e5, e5', Tr.lit, tree_mk, treeCs, strsA, intsA]
    · refine callH_of [] [(2000, 95)] (literal_h { LitD.zero with kind := 3, term := a.term, rel := num, other := b.term } s) (by simp [litCs, LitD.zero, TermD.zero, noText, strsA, intsA]) (by simp) (by simp) ?_
      simp [treeCs, strsA, intsA]
      simp [hr.out, comparedY, na, nb, e3, e4, Tr.lit, tree_mk, treeCs, strsA, intsA]
      rw [if_neg (by intro h; exact h.2 (e5 h.1)), tree_mk]
      simp [treeCs, strsA, intsA]
end Go.Proofs.YtldnkeackphilaaGreatDoor.X
/- norm's functions by the linear calculus: a condition. -/
namespace Go.Proofs.YtldnkeackphilaaGreatDoor.X
open Go.RowKit

set_option maxRecDepth 8000
/-- cond keeps its word at all places below n. -/
def CondC (ps : List Part) (n : Nat) : Prop := ∀ (i f : Nat) (s : Int) (p : Part), ps[i]? = some p → isCondF p.kind = true → i < n → i < f → 0 ≤ s ∧ s ≤ 1 → Has Tryz.prog 38 [mkA ps, iA i, iA s] (treeA (condF ps f i s)) noTok
/-- .. and member at the parts that are such. -/
def MemC (ps : List Part) (n f : Nat) : Prop := ∀ (i : Nat) (p : Part) (a b : Nat) (s : Int), ps[i]? = some p → p.kind = 7 → i ≤ n → p.kids = [(a : Int), (b : Int)] → 0 ≤ s ∧ s ≤ 1 → Has Tryz.prog 65 [mkA ps, iA a, iA b, iA s] (treeA (memberF (condF ps f) ps a b s)) noTok
set_option maxHeartbeats 2000000 in
theorem cond_aux (ps : List Part) (i : Nat) (kind : Int) (text : ByteArray) (num : Int) (kids : List Int) (hp : ps[i]? = some ⟨kind, text, num, kids⟩) (s : Int) (hs : 0 ≤ s ∧ s ≤ 1) (hlen : kids.length ≤ 1000) (c : Int → Int → Tr) (res : Tr) (hr : Hid (res = condStep c ps i s))
    (hK : Hid (kind = 3 ∨ kind = 4 ∨ kind = 5 ∨ kind = 8 ∨ kind = 9 → ∀ k ∈ kids, ∀ s, 0 ≤ s ∧ s ≤ 1 → Has Tryz.prog 38 [mkA ps, iA k, iA s] (treeA (c k s)) noTok))
    (h1 : Hid (kind = 3 ∨ kind = 8 ∨ kind = 9 → ∃ k, kids = [k]))
    (h6 : Hid (kind = 6 → ∃ j k, kids = [j, k] ∧ inR (opdF c ps j) ∧ inR (opdF c ps k) ∧ Has Tryz.prog 100 [mkA ps, iA j] (.agg (opdF c ps j).cs) noTok ∧ Has Tryz.prog 100 [mkA ps, iA k] (.agg (opdF c ps k).cs) noTok))
    (h7 : Hid (kind = 7 → ∃ j k, kids = [j, k] ∧ ∀ s, 0 ≤ s ∧ s ≤ 1 → Has Tryz.prog 65 [mkA ps, iA j, iA k, iA s] (treeA (memberF c ps j k s)) noTok))
    (hkd : kind = 1 ∨ kind = 2 ∨ kind = 3 ∨ kind = 4 ∨ kind = 5 ∨ kind = 6 ∨ kind = 7 ∨ kind = 8 ∨ kind = 9 ∨ kind = 10) : Has Tryz.prog 38 [mkA ps, iA i, iA s] (treeA res) noTok := by
  have hl : i < ps.length := (List.getElem?_eq_some_iff.1 hp).1
  have hg : ps[i] = ⟨kind, text, num, kids⟩ := by simpa [List.getElem?_eq_getElem hl] using hp
  have hP : partAt ps i = ⟨kind, text, num, kids⟩ := partAt_nat hp
  refine fnX mixed ⟨[0, 1, 2, 6, 7, 8, 10, 19, 20, 28, 38, 42, 43, 44, 45, 61, 66, 72, 79, 86, 94], [7, 8, 53, 54, 85], [(7, [7]), (31, [7]), (98, [7]), (102, [7])], [], []⟩ Tryz.func38 rfl rfl rfl (by kernel_rfl) (by simp) ?_
  rcases hkd with h | h | h | h | h | h | h | h | h | h <;> subst h
  · simp [psA, mkA, hg, hl, pCs]
    refine callP_of (truth_h true s) (by simp) (by simp) ?_
    simp [hr.out, condStep, hP]
  · simp [psA, mkA, hg, hl, pCs]
    refine callP_of (truth_h false s) (by simp) (by simp) ?_
    simp [hr.out, condStep, hP]
  · obtain ⟨k, rfl⟩ := h1.out (by simp)
    have hC := hK.out (by simp) k (by simp) (1 - s) (by omega)
    simp [psA, mkA, hg, hl, pCs, intsA]
    refine callP_of (other_h s hs) (by simp) (by simp) ?_
    simp
    refine callP_of hC (by simp) (by simp) ?_
    simp [hr.out, condStep, hP]
  · simp [psA, mkA, hg, hl, pCs, intsA]
    refine wF_loop [.slot 8 8 99] [.slot 7 7, .slot 8 8] [0, 2, 6, 7, 8, 42, 43, 44] (fun n : Nat => St.asc [(0, mkA ps), (2, iA s), (6, .imm (.pointer none)), (7, .ref 7 0), (8, .rw 8 0 n), (42, .sl (kids.map fun k => [iA k])), (43, iA kids.length), (44, iA n)]
      [(7, .box 66 [iA 4, sA text, iA num, .sl (kids.map fun k => [iA k])]), (8, .row 99 ((kids.map fun k => [treeA (c k s)]).take n))] [(7, true), (8, true)] false) (fun n => n ≤ kids.length) (fun n => kids.length - n) 0 _ (by simp) (by simp [mkA, psA]) (by simp) ?_
    rintro n hn
    by_cases h : n < kids.length
    · have hx : kids[n]? = some kids[n] := List.getElem?_eq_getElem h
      have hC := hK.out (by simp) kids[n] (List.getElem_mem h) s hs
      have htk : (kids.map fun k => [treeA (c k s)]).take (n + 1) = (kids.map fun k => [treeA (c k s)]).take n ++ [[treeA (c kids[n] s)]] := by rw [List.take_add_one, List.getElem?_map, hx]; rfl
      generalize kids[n] = k at *
      have h1 : IntKind.i64.wrap ((n : Int) + 1) = (n : Int) + 1 := wrap64 (by omega) (by omega)
      have hmin : min n kids.length = n := by omega
      simp [hx, h, mkA, psA, -getElem?_pos]
      refine callP_of hC (by simp) (by simp) ?_
      simp [h1, hmin]
      refine ⟨⟨by omega, by omega⟩, n + 1, ?_, by omega, by omega⟩
      simp [htk, mkA, psA, List.take_take]
    · obtain rfl : n = kids.length := by omega
      have hlen : List.take kids.length (List.map (fun k => [treeA (c k s)]) kids) = List.map (fun k => [treeA (c k s)]) kids := List.take_of_length_le (by simp)
      have hJ : ∀ d : Int, Has Tryz.prog 61 [iA d, .sl (kids.map fun k => [treeA (c k s)])] (treeA (joinF d (kids.map fun k => c k s))) noTok := fun d => by
        have := joined_h d (kids.map fun k => c k s) (by simp; omega)
        rw [List.map_map] at this
        exact this
      simp [hlen]
      refine ⟨fun hz => ?_, fun hz => ?_⟩
      · refine callP_of (hJ 3) (by simp) (by simp) ?_
        simp [hr.out, condStep, hP, hz]
      · refine callP_of (hJ 4) (by simp) (by simp) ?_
        simp [hr.out, condStep, hP, hz]
  · simp [psA, mkA, hg, hl, pCs, intsA]
    refine wF_loop [.slot 8 8 99] [.slot 7 7, .slot 8 8] [0, 2, 6, 7, 8, 42, 43, 44] (fun n : Nat => St.asc [(0, mkA ps), (2, iA s), (6, .imm (.pointer none)), (7, .ref 7 0), (8, .rw 8 0 n), (42, .sl (kids.map fun k => [iA k])), (43, iA kids.length), (44, iA n)]
      [(7, .box 66 [iA 5, sA text, iA num, .sl (kids.map fun k => [iA k])]), (8, .row 99 ((kids.map fun k => [treeA (c k s)]).take n))] [(7, true), (8, true)] false) (fun n => n ≤ kids.length) (fun n => kids.length - n) 0 _ (by simp) (by simp [mkA, psA]) (by simp) ?_
    rintro n hn
    by_cases h : n < kids.length
    · have hx : kids[n]? = some kids[n] := List.getElem?_eq_getElem h
      have hC := hK.out (by simp) kids[n] (List.getElem_mem h) s hs
      have htk : (kids.map fun k => [treeA (c k s)]).take (n + 1) = (kids.map fun k => [treeA (c k s)]).take n ++ [[treeA (c kids[n] s)]] := by rw [List.take_add_one, List.getElem?_map, hx]; rfl
      generalize kids[n] = k at *
      have h1 : IntKind.i64.wrap ((n : Int) + 1) = (n : Int) + 1 := wrap64 (by omega) (by omega)
      have hmin : min n kids.length = n := by omega
      simp [hx, h, mkA, psA, -getElem?_pos]
      refine callP_of hC (by simp) (by simp) ?_
      simp [h1, hmin]
      refine ⟨⟨by omega, by omega⟩, n + 1, ?_, by omega, by omega⟩
      simp [htk, mkA, psA, List.take_take]
    · obtain rfl : n = kids.length := by omega
      have hlen : List.take kids.length (List.map (fun k => [treeA (c k s)]) kids) = List.map (fun k => [treeA (c k s)]) kids := List.take_of_length_le (by simp)
      have hJ : ∀ d : Int, Has Tryz.prog 61 [iA d, .sl (kids.map fun k => [treeA (c k s)])] (treeA (joinF d (kids.map fun k => c k s))) noTok := fun d => by
        have := joined_h d (kids.map fun k => c k s) (by simp; omega)
        rw [List.map_map] at this
        exact this
      simp [hlen]
      refine ⟨fun hz => ?_, fun hz => ?_⟩
      · refine callP_of (hJ 3) (by simp) (by simp) ?_
        simp [hr.out, condStep, hP, hz]
      · refine callP_of (hJ 4) (by simp) (by simp) ?_
        simp [hr.out, condStep, hP, hz]
  · obtain ⟨j, k, rfl, r1, r2, o1, o2⟩ := h6.out rfl
    simp [psA, mkA, hg, hl, pCs, intsA]
    refine callP_of (compared_aux 6 text num j k ps s hs _ _ o1 o2 r1 r2 _ (Lib.hid rfl)) (by simp) (by simp) ?_
    simp [hr.out, condStep, hP, comparedF]
  · obtain ⟨j, k, rfl, hm⟩ := h7.out rfl
    simp [psA, mkA, hg, hl, pCs, intsA]
    refine ⟨fun hn => ?_, fun hn => ?_⟩
    · refine callP_of (other_h s hs) (by simp) (by simp) ?_
      simp
      refine callP_of (hm (1 - s) (by omega)) (by simp) (by simp) ?_
      simp [hr.out, condStep, hP, hn]
    · refine callP_of (hm s hs) (by simp) (by simp) ?_
      simp [hr.out, condStep, hP, hn]
  · obtain ⟨k, rfl⟩ := h1.out (by simp)
    have hC := hK.out (by simp) k (by simp) 0 (by omega)
    simp [psA, mkA, hg, hl, pCs, intsA]
    refine callP_of (near_h ⟨8, text, num, [k]⟩ k [] rfl ps s _ hC) (by simp) (by simp) ?_
    simp [hr.out, condStep, hP, nearF]
  · obtain ⟨k, rfl⟩ := h1.out (by simp)
    have hC := hK.out (by simp) k (by simp) 0 (by omega)
    simp [psA, mkA, hg, hl, pCs, intsA]
    refine callP_of (other_h s hs) (by simp) (by simp) ?_
    simp
    refine callP_of (near_h ⟨9, text, num, [k]⟩ k [] rfl ps (1 - s) _ hC) (by simp) (by simp) ?_
    simp [hr.out, condStep, hP, nearF]
  · simp [psA, mkA, hg, hl, pCs]
    refine callH_of [] [(2000, 85)] (literal_h { LitD.zero with kind := 6, key := text } s) (by simp [litCs, LitD.zero, TermD.zero, noText, strsA, intsA]) (by simp) (by simp) ?_
    simp [treeCs, strsA, intsA]
    simp [hr.out, condStep, hP, Tr.lit, tree_mk, treeCs, strsA, intsA, selA_none]
theorem kid_of (ps : List Part) (hw : WF ps) (n : Nat) (p : Part) (hp : ps[n]? = some p) (k : Int) (hk : k ∈ p.kids) : ∃ (i : Nat) (q : Part), k = i ∧ i < n ∧ ps[i]? = some q ∧ kidFitsF p.kind q.kind = true := by
  have h1 := hw.kids n p hp k hk
  have h2 := hw.kinds n p hp k hk
  have hl : k.toNat < ps.length := by have := (List.getElem?_eq_some_iff.1 hp).1; omega
  have hq : ps[k.toNat]? = some ps[k.toNat] := List.getElem?_eq_getElem hl
  refine ⟨k.toNat, ps[k.toNat], by omega, by omega, hq, ?_⟩
  have : kindAt ps k = ps[k.toNat].kind := by simp [kindAt, hq]
  rwa [this] at h2
theorem opd_inR (ps : List Part) (hw : WF ps) (c : Int → Int → Tr) (k : Nat) (p : Part) (hp : ps[k]? = some p) : inR (opdF c ps k) := by
  have hfit := hw.fits k p hp
  have hnum : numFitsF p.kind p.num = true := by simp only [partFitsF, Bool.and_eq_true, decide_eq_true_eq] at hfit; exact hfit.1.2
  rw [opdF, partAt_nat hp]
  unfold opdOf inR
  dsimp only
  repeat' split
  all_goals try (simp; done)
  · rename_i h
    simp only [numFitsF, h] at hnum
    simp at hnum
    simp only
    omega
  · have := intF_range (by assumption)
    simp only
    omega
/-- What the parts of a tree of the right form let one know. -/
theorem side_ops (ps : List Part) (ht : TT ps) (n f : Nat) (hn : n ≤ f) (H : CondC ps n) (k : Nat) (hk : k ≤ n) (p : Part) (hp : ps[k]? = some p) (hs : sideK p.kind) :
    Has Tryz.prog 100 [mkA ps, iA k] (.agg (opdF (condF ps f) ps k).cs) noTok := by
  have hfit := ht.wf.fits k p hp
  have hkd := ht.wf.kids k p hp
  have hcnt : kidCountF p.kind p.kids.length = true := by simp only [partFitsF, Bool.and_eq_true, decide_eq_true_eq] at hfit; exact hfit.2
  have one : p.kind = 20 ∨ p.kind = 19 → ∃ i : Nat, p.kids = [(i : Int)] ∧ i < k := fun h => by
    have h1 : (p.kids.length : Int) = 1 := by rcases h with h | h <;> simpa [kidCountF, h] using hcnt
    replace h1 : p.kids.length = 1 := by omega
    match hl : p.kids, h1 with
    | [a], _ =>
      have := hkd a (by simp [hl])
      exact ⟨a.toNat, by congr; omega, by omega⟩
  refine operand_h ps (condF ps f) k p hp hs (fun h => ?_) (fun h => ?_)
  · obtain ⟨i, hi, hik⟩ := one (.inl h)
    obtain ⟨i', q, he, h1, hq, hf⟩ := kid_of ps ht.wf k p hp i (by simp [hi])
    obtain rfl : i' = i := by omega
    exact ⟨i', [], hi, H i' f 0 q hq (by simpa [kidFitsF, h] using hf) (by omega) (by omega) (by omega)⟩
  · obtain ⟨i, hi, hik⟩ := one (.inr h)
    have hl : i < ps.length := by have := (List.getElem?_eq_some_iff.1 hp).1; omega
    refine ⟨i, [], ps[i], hi, List.getElem?_eq_getElem hl, ?_⟩
    have := ht.wf.fits i _ (List.getElem?_eq_getElem hl)
    simp only [partFitsF, Bool.and_eq_true, decide_eq_true_eq] at this
    omega
theorem cond_step (ps : List Part) (ht : TT ps) (n : Nat) (H : CondC ps n) (f : Nat) (hm : MemC ps n f) (hnf : n ≤ f) (s : Int) (hs : 0 ≤ s ∧ s ≤ 1) (p : Part) (hp : ps[n]? = some p) (hc : isCondF p.kind = true) :
    Has Tryz.prog 38 [mkA ps, iA n, iA s] (treeA (condF ps (f + 1) n s)) noTok := by
  have hfit := ht.wf.fits n p hp
  have hkd := ht.wf.kids n p hp
  have hcnt : kidCountF p.kind p.kids.length = true := by simp only [partFitsF, Bool.and_eq_true, decide_eq_true_eq] at hfit; exact hfit.2
  have two : p.kind = 6 ∨ p.kind = 7 → ∃ i j : Nat, p.kids = [(i : Int), (j : Int)] ∧ i < n ∧ j < n := fun h => by
    have h1 : (p.kids.length : Int) = 2 := by rcases h with h | h <;> simpa [kidCountF, h] using hcnt
    replace h1 : p.kids.length = 2 := by omega
    match hl : p.kids, h1 with
    | [a, b], _ =>
      have h2 := hkd a (by simp [hl])
      have h3 := hkd b (by simp [hl])
      exact ⟨a.toNat, b.toNat, by rw [Int.toNat_of_nonneg h2.1, Int.toNat_of_nonneg h3.1], by omega, by omega⟩
  have hnl : n < ps.length := (List.getElem?_eq_some_iff.1 hp).1
  refine cond_aux ps n p.kind p.text p.num p.kids hp s hs (ht.cnt n p hp) (condF ps f) _ (Lib.hid rfl) (Lib.hid fun hkk k hk s hs => ?_) (Lib.hid fun h => ?_) (Lib.hid fun h => ?_) (Lib.hid fun h => ?_) ?_
  · obtain ⟨i', q, rfl, h1, hq, hf⟩ := kid_of ps ht.wf n p hp k hk
    exact H i' f s q hq (by rcases hkk with h | h | h | h | h <;> simpa [kidFitsF, h] using hf) (by omega) (by omega) hs
  · have h1 : (p.kids.length : Int) = 1 := by rcases h with h | h | h <;> simpa [kidCountF, h] using hcnt
    replace h1 : p.kids.length = 1 := by omega
    match hl : p.kids, h1 with
    | [a], _ => exact ⟨a, rfl⟩
  · obtain ⟨i, j, hk, hi, hj⟩ := two (.inl h)
    have hsd := ht.cmp n p hp h
    have hpi : ps[i]? = some ps[i] := List.getElem?_eq_getElem (by omega)
    have hpj : ps[j]? = some ps[j] := List.getElem?_eq_getElem (by omega)
    simp only [hk, List.getD_cons_zero, List.getD_cons_succ, partAt_nat hpi, partAt_nat hpj] at hsd
    exact ⟨i, j, hk, opd_inR ps ht.wf _ i _ hpi, opd_inR ps ht.wf _ j _ hpj, side_ops ps ht n f hnf H i (by omega) _ hpi hsd.1, side_ops ps ht n f hnf H j (by omega) _ hpj hsd.2⟩
  · obtain ⟨i, j, hk, hi, hj⟩ := two (.inr h)
    exact ⟨i, j, hk, fun s hs => hm n p i j s hp h (Nat.le_refl _) hk hs⟩
  · simp only [isCondF, Bool.and_eq_true, decide_eq_true_eq] at hc
    omega
/-- cond makes of every part that is a condition what condF says, if member does. -/
theorem cond_all (ps : List Part) (ht : TT ps) (hm : ∀ n f, n ≤ f → CondC ps n → MemC ps n f) : ∀ n, CondC ps n
  | 0 => fun i f s p _ _ hi => by omega
  | n + 1 => fun i f s p hp hc hi hf hs => by
    have ih := cond_all ps ht hm n
    rcases Nat.lt_or_ge i n with h | h
    · exact ih i f s p hp hc h hf hs
    · obtain rfl : i = n := by omega
      match f, hf with
      | f + 1, hf => exact cond_step ps ht i ih f (hm i f (by omega) ih) (by omega) s hs p hp hc
end Go.Proofs.YtldnkeackphilaaGreatDoor.X
