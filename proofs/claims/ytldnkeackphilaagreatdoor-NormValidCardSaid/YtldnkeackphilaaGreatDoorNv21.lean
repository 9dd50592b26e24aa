/- NormValid's plain law: parts, lists, plans. -/
import Derived.Test.YtldnkeackphilaaGreatDoorNv20
import Derived.Test.YtldnkeackphilaaGreatDoorNv17
import Derived.Test.YtldnkeackphilaaGreatDoorNv19
import Derived.Test.YtldnkeackphilaaGreatDoorNv9
import Derived.Test.YtldnkeackphilaaGreatDoorNv1
import Derived.Test.YtldnkeackphilaaGreatDoorProg
set_option linter.unusedSimpArgs false
set_option linter.unusedVariables false
namespace Go.Proofs.YtldnkeackphilaaGreatDoor
open Go.RowKit

theorem zero_eq (l : LitD) : isZeroF l = zeroF l := by
  simp only [isZeroF, zeroF, sameF, restF, LitD.zero, noText_l, len0, Bool.not_false, Bool.true_and, Bool.false_or]
  generalize eqT l.other .zero = E
  generalize eqT l.term .zero = E2
  generalize l.key.toList = K
  generalize (l.texts.length == 0) = A
  generalize (l.nums.length == 0) = B
  cases A <;> cases B <;> cases E <;> cases E2 <;> simp <;> grind
theorem step_eq (pods : Bool) (sels : Int) (free : List Int) (p : PartD) : stepOk pods sels free p = (nPartF ⟨sels, !pods⟩ p && decide (p.kids.length ≤ free.length) && (p.kids == free.drop (free.length - p.kids.length))) := by
  simp only [stepOk, nPartF, lit_eq, zero_eq]
  generalize litF p.lit pods sels = F
  generalize zeroF p.lit = Z
  generalize (p.kids == free.drop (free.length - p.kids.length)) = D
  generalize p.kids.length = K
  generalize free.length = M
  generalize p.neg = N
  generalize p.kind = k
  have e1 : (K == 0) = decide (K = 0) := rfl
  simp only [e1]
  have hk : k < 1 ∨ k = 1 ∨ k = 2 ∨ k = 3 ∨ k = 4 ∨ k = 5 ∨ k > 5 := by omega
  rcases hk with h | rfl | rfl | rfl | rfl | rfl | h
  · have h1 : ¬ k = 1 := by omega
    have h2 : ¬ k = 2 := by omega
    have h3 : ¬ k = 3 := by omega
    have h4 : ¬ k = 4 := by omega
    have h5 : ¬ k = 5 := by omega
    simp [h, h1, h2, h3, h4, h5]
  · cases F <;> cases Z <;> cases D <;> cases N <;> simp <;> grind
  · cases F <;> cases Z <;> cases D <;> cases N <;> simp <;> grind
  · cases F <;> cases Z <;> cases D <;> cases N <;> simp <;> grind
  · cases F <;> cases Z <;> cases D <;> cases N <;> simp <;> grind
  · cases F <;> cases Z <;> cases D <;> cases N <;> simp <;> grind
  · have h1 : ¬ k = 1 := by omega
    have h2 : ¬ k = 2 := by omega
    have h3 : ¬ k = 3 := by omega
    have h4 : ¬ k = 4 := by omega
    have h5 : ¬ k = 5 := by omega
    have h6 : 5 < k := h
    simp [h1, h2, h3, h4, h5, h6]
/-- All the parts of a list, with its sets' elements. -/
def wtL (l : List PartD) : Nat := (l.map partWt).sum
theorem measF_wt : ∀ (l : List PartD) (n : Nat), (measF l n ≤ 1000) = (n + wtL l ≤ 1000)
  | [], n => by simp [measF, wtL]
  | p :: l, n => by
    rw [measF]
    by_cases h : n ≤ 1000
    · rw [if_pos h, measF_wt l]
      simp [wtL]
      omega
    · rw [if_neg h]
      simp [wtL]
      omega
theorem measF_val : ∀ (l : List PartD) (n : Nat), n + wtL l ≤ 1000 → measF l n = n + wtL l
  | [], n, _ => by simp [measF, wtL]
  | p :: l, n, h => by
    have e : wtL (p :: l) = partWt p + wtL l := by simp [wtL]
    rw [e] at h ⊢
    rw [measF, if_pos (by omega), measF_val l _ (by omega)]
    omega
def wtP (ls : List (List PartD)) : Nat := (ls.map wtL).sum
theorem measP_wt : ∀ (ls : List (List PartD)) (n : Nat), (measP ls n ≤ 1000) = (n + wtP ls ≤ 1000)
  | [], n => by simp [measP, wtP]
  | l :: ls, n => by
    have e : wtP (l :: ls) = wtL l + wtP ls := by simp [wtP]
    rw [measP, e]
    by_cases h : n ≤ 1000
    · rw [if_pos h, measP_wt ls]
      by_cases h2 : wtL l ≤ 1000
      · rw [measF_val l 0 (by omega)]
        apply propext
        omega
      · have h3 : ¬ measF l 0 ≤ 1000 := by rw [measF_wt]; omega
        apply propext
        omega
    · rw [if_neg h]
      apply propext
      omega
theorem measureF_wt (p : PlanD) : (measureF p > 1000) = ¬ (wtL p.main + wtP p.sels ≤ 1000) := by
  have h1 := measP_wt p.sels (measF p.main 0)
  have h2 := measF_wt p.main 0
  apply propext
  unfold measureF
  by_cases h : wtL p.main ≤ 1000
  · rw [measF_val p.main 0 (by omega)] at h1 ⊢
    have h1' : measP p.sels (0 + wtL p.main) ≤ 1000 ↔ 0 + wtL p.main + wtP p.sels ≤ 1000 := by rw [h1]
    split <;> omega
  · have h3 : ¬ measF p.main 0 ≤ 1000 := by rw [h2]; omega
    have h1' : measP p.sels (measF p.main 0) ≤ 1000 ↔ measF p.main 0 + wtP p.sels ≤ 1000 := by rw [h1]
    split <;> omega
/-- What norm.Valid says is what berthref16.Valid says. -/
theorem plan_eq (p : PlanD) : planOkF p = (decide (wtL p.main + wtP p.sels ≤ 1000) && ((listF p.main false p.sels.length && p.sels.all fun l => listF l true 0) || (decide (p.sels.length = 0) && listF p.main true 0))) := by
  have hall : (List.range p.sels.length).all (selAt p) = p.sels.all fun l => listF l true 0 := by
    rw [Bool.eq_iff_iff, List.all_eq_true, List.all_eq_true]
    constructor
    · intro h l hl
      obtain ⟨i, hi, rfl⟩ := List.mem_iff_getElem.1 hl
      have := h i (List.mem_range.2 hi)
      simpa [selAt, hi] using this
    · intro h i hi
      have hi := List.mem_range.1 hi
      have := h p.sels[i] (List.getElem_mem hi)
      simpa [selAt, hi] using this
  unfold planOkF forF
  rw [hall]
  simp only [measureF_wt]
  generalize wtL p.main + wtP p.sels = W
  generalize hA : (p.sels.all fun l => listF l true 0) = A
  by_cases h0 : p.sels.length = 0
  · have hnil : p.sels = [] := List.length_eq_zero_iff.1 h0
    have hA' : A = true := by rw [← hA, hnil]; rfl
    subst hA'
    rw [h0]
    generalize listF p.main false ((0 : Nat) : Int) = B
    have e : ((0 : Nat) : Int) = 0 := rfl
    rw [e]
    generalize listF p.main true 0 = C
    by_cases hw : W ≤ 1000 <;> simp [hw] <;> cases B <;> cases C <;> rfl
  · have hpos : 0 < p.sels.length := by omega
    have h0' : ¬ p.sels = [] := fun h => h0 (by rw [h]; rfl)
    by_cases hw : W ≤ 1000 <;> simp [hw, hpos, h0, h0']
end Go.Proofs.YtldnkeackphilaaGreatDoor
/- norm: what a plan is made of, in plain Lean, and as values. -/
namespace Go.Proofs.YtldnkeackphilaaGreatDoor

/-- A tree of package norm. -/
inductive Tr where
  | mk (kind : Int) (neg : Bool) (lit : LitD) (kids : List Tr) (sel : Option Tr)
def Tr.kind : Tr → Int | .mk k _ _ _ _ => k
def Tr.neg : Tr → Bool | .mk _ n _ _ _ => n
def Tr.lt : Tr → LitD | .mk _ _ l _ _ => l
def Tr.kids : Tr → List Tr | .mk _ _ _ k _ => k
def Tr.sel : Tr → Option Tr | .mk _ _ _ _ s => s
def Tr.leaf (k : Int) : Tr := .mk k false .zero [] none
def Tr.lit (l : LitD) (s : Int) (sel : Option Tr) : Tr := .mk 5 (s == 1) l [] sel
def truthF (b : Bool) (s : Int) : Tr := if b = (s == 0) then .leaf 1 else .leaf 2
def joinF (kind : Int) (kids : List Tr) : Tr :=
  let win : Int := if kind = 4 then 1 else 2
  let drop : Int := if kind = 4 then 2 else 1
  if kids.any (fun t => decide (t.kind = win)) then .leaf win else
  match kids.filter (fun t => decide (t.kind ≠ drop)) with
  | [] => .leaf drop
  | [t] => t
  | l => .mk kind false .zero l none
/-- A side of a comparison: 0 a constant, 1 undefined, 2 a term. -/
structure OpdD where
  step : Int
  num : Bool
  text : ByteArray
  n : Int
  term : TermD
  sel : Option Tr
def standsF (a b : OpdD) (cmp : Int) : Bool :=
  if cmp = 1 then decide (a.text = b.text) && decide (a.n = b.n)
  else if cmp = 3 then decide (a.n < b.n) else if cmp = 4 then decide (a.n ≤ b.n) else if cmp = 5 then decide (b.n < a.n) else decide (b.n ≤ a.n)
def turnF (c : Int) : Int := if c = 3 then 5 else if c = 4 then 6 else if c = 5 then 3 else if c = 6 then 4 else c
def againstL (t c : OpdD) (cmp : Int) : LitD :=
  if cmp = 1 then (if c.num then { LitD.zero with kind := 1, term := t.term, nums := [c.n] } else { LitD.zero with kind := 1, term := t.term, texts := [c.text] })
  else if cmp = 4 then { LitD.zero with kind := 2, term := t.term, rel := 4, num := c.n }
  else if cmp = 6 then { LitD.zero with kind := 2, term := t.term, rel := 6, num := c.n }
  else if cmp = 3 then { LitD.zero with kind := 2, term := t.term, rel := 4, num := c.n - 1 }
  else if cmp = 5 then { LitD.zero with kind := 2, term := t.term, rel := 6, num := c.n + 1 }
  else { LitD.zero with kind := 2, term := t.term, num := c.n }
def againstF (t c : OpdD) (cmp s : Int) : Tr := .lit (againstL t c cmp) s t.sel
def keyTermF (x : OpdD) : TermD := if x.step = 0 then ⟨1, 0, x.text, 0⟩ else x.term
mutual
/-- A tree as a value. -/
def treeA : Tr → AV
  | .mk k neg l kids sel => .ptr (iA k :: bA neg :: (litCs l ++ [.sl (kidsA kids), selA sel]))
def kidsA : List Tr → List (List AV)
  | [] => []
  | t :: r => [treeA t] :: kidsA r
def selA : Option Tr → AV
  | none => .imm (.pointer none)
  | some t => treeA t
end
theorem kids_map : ∀ l : List Tr, kidsA l = l.map fun t => [treeA t]
  | [] => by simp [kidsA]
  | t :: r => by simp [kidsA, kids_map r]
/-- A tree's cells. -/
def treeCs (k : Int) (neg : Bool) (l : LitD) (kids : List Tr) (sel : AV) : List AV := [iA k, bA neg, iA l.kind, iA l.term.kind, iA l.term.side, sA l.term.key, iA l.term.sel, iA l.rel, iA l.num, strsA l.texts, intsA l.nums, iA l.other.kind, iA l.other.side, sA l.other.key, iA l.other.sel, iA l.of_, sA l.key, iA l.sel, .sl (kids.map fun t => [treeA t]), sel]
theorem tree_eq (t : Tr) : treeA t = .ptr (treeCs t.kind t.neg t.lt t.kids (selA t.sel)) := by
  obtain ⟨k, neg, l, kids, sel⟩ := t
  simp [treeA, treeCs, litCs, kids_map, Tr.kind, Tr.neg, Tr.lt, Tr.kids, Tr.sel]
theorem tree_mk (k : Int) (neg : Bool) (l : LitD) (kids : List Tr) (sel : Option Tr) : treeA (.mk k neg l kids sel) = .ptr (treeCs k neg l kids (selA sel)) := tree_eq _
/-- .. and a selector is a tree, or none. -/
theorem selA_none : selA none = .imm (.pointer none) := by simp [selA]
theorem selA_some (t : Tr) : selA (some t) = treeA t := by simp [selA]
def OpdD.cs (x : OpdD) : List AV := [iA x.step, bA x.num, sA x.text, iA x.n, iA x.term.kind, iA x.term.side, sA x.term.key, iA x.term.sel, selA x.sel]
end Go.Proofs.YtldnkeackphilaaGreatDoor
namespace Go.Proofs.YtldnkeackphilaaGreatDoor.X
open Go.RowKit
@[simp] theorem tr_unC (t : Tr) : unC' (treeA t) = (treeA t) := by rw [tree_eq] <;> (first | rfl | simp)
@[simp] theorem sel_unC (o : Option Tr) : unC' (selA o) = (selA o) := by cases o <;> simp only [selA_none, selA_some, tree_eq] <;> (first | rfl | simp)
@[simp] theorem tr_okV (t : Tr) : okV true (treeA t) = True := by rw [tree_eq] <;> (first | rfl | simp)
@[simp] theorem sel_okV (o : Option Tr) : okV true (selA o) = True := by cases o <;> simp only [selA_none, selA_some, tree_eq] <;> (first | rfl | simp)
@[simp] theorem tr_trimA (t : Tr) : trimA (treeA t) = (treeA t) := by rw [tree_eq] <;> (first | rfl | simp)
@[simp] theorem tr_pureA (t : Tr) : pureA (treeA t) = true := by rw [tree_eq] <;> (first | rfl | simp)
@[simp] theorem sel_pureA (o : Option Tr) : pureA (selA o) = true := by cases o <;> simp only [selA_none, selA_some, tree_eq] <;> (first | rfl | simp)
@[simp] theorem tr_fixA (t : Tr) : fixA (treeA t) = (treeA t) := by rw [tree_eq] <;> (first | rfl | simp)
@[simp] theorem sel_fixA (o : Option Tr) : fixA (selA o) = (selA o) := by cases o <;> simp only [selA_none, selA_some, tree_eq] <;> (first | rfl | simp)
@[simp] theorem tr_refsA (t : Tr) : refsA (treeA t) = [] := by rw [tree_eq] <;> (first | rfl | simp)
@[simp] theorem sel_refsA (o : Option Tr) : refsA (selA o) = [] := by cases o <;> simp only [selA_none, selA_some, tree_eq] <;> (first | rfl | simp)
@[simp] theorem tr_cells (t : Tr) : AV.cells (treeA t) = [(treeA t)] := by rw [tree_eq] <;> (first | rfl | simp)
@[simp] theorem sel_cells (o : Option Tr) : AV.cells (selA o) = [(selA o)] := by cases o <;> simp only [selA_none, selA_some, tree_eq] <;> (first | rfl | simp)
@[simp] theorem tr_whole (t : Tr) : AV.whole (treeA t) = true := by rw [tree_eq] <;> (first | rfl | simp)
@[simp] theorem sel_whole (o : Option Tr) : AV.whole (selA o) = true := by cases o <;> simp only [selA_none, selA_some, tree_eq] <;> (first | rfl | simp)
@[simp] theorem tr_shared (t : Tr) : AV.shared (treeA t) = true := by rw [tree_eq] <;> (first | rfl | simp)
@[simp] theorem tr_final (t : Tr) : AV.final (treeA t) = true := by rw [tree_eq] <;> (first | rfl | simp)
@[simp] theorem tr_renA (σ : Nat → Nat) (t : Tr) : renA σ (treeA t) = treeA t := by rw [tree_eq]; simp
@[simp] theorem tr_subA (n : Nat) (B : Blk) (t : Tr) : subA n B (treeA t) = treeA t := by rw [tree_eq]; simp
@[simp] theorem sel_subA (n : Nat) (B : Blk) (o : Option Tr) : subA n B (selA o) = selA o := by cases o <;> simp [selA_none, selA_some]
@[simp] theorem tr_relA (σ : List (Nat × Nat)) (t : Tr) : relA σ (treeA t) = treeA t := by rw [tree_eq]; simp
@[simp] theorem tr_adrC (t : Tr) : adrC (treeA t) = True := by rw [tree_eq]; rfl
@[simp] theorem tr_fadA (o : Nat) (T : TypeId) (t : Tr) : fadA (some (o, T)) (treeA t) = .ptr ((treeCs t.kind t.neg t.lt t.kids (selA t.sel)).drop o) := by rw [tree_eq]; rfl
@[simp] theorem sel_binX (op : BinOp) (o : Option Tr) : binX op (selA o) (.imm (.pointer none)) = eqlA op o.isNone := by cases o <;> simp [selA_none, selA_some, tree_eq]
@[simp] theorem sel_binXC (P : Program) (op : BinOp) (T : TypeId) (c : Bool) (o : Option Tr) : binXC P op T c (selA o) (.imm (.pointer none)) = (eqlC op ∧ ptrP P T = true) := by cases o <;> simp [selA_none, selA_some, tree_eq]
@[simp] theorem tr_onO {α : Type} (f : α → Prop) : onO (none : Option α) f = False := rfl
end Go.Proofs.YtldnkeackphilaaGreatDoor.X
/- Package show's small functions: what each computes. -/
namespace Go.Proofs.YtldnkeackphilaaGreatDoor
open Go.RowKit

def isCondF (k : Int) : Bool := decide (1 ≤ k) && decide (k ≤ 10)
theorem isCond_c (k : Int) (w : World) : Calls Tryz.prog 130 #[.int .i64 k] w fun e w' => e = .returned (.bool (isCondF k)) ∧ w' = w := by
  go_enter Tryz.func130, Tryz.ntmps130
  go_wp2
  all_goals (go_ret; exact ⟨ret_b (by rw [Bool.eq_iff_iff]; simp_all [isCondF]; try omega), rfl⟩)
def isTermF (k : Int) : Bool := decide (11 ≤ k) && decide (k ≤ 20)
theorem isTerm_c (k : Int) (w : World) : Calls Tryz.prog 184 #[.int .i64 k] w fun e w' => e = .returned (.bool (isTermF k)) ∧ w' = w := by
  go_enter Tryz.func184, Tryz.ntmps184
  go_wp2
  all_goals (go_ret; exact ⟨ret_b (by rw [Bool.eq_iff_iff]; simp_all [isTermF]; try omega), rfl⟩)
def kidCountF (k n : Int) : Bool :=
  if k = 3 ∨ k = 8 ∨ k = 9 ∨ k = 19 ∨ k = 20 then n == 1 else if k = 4 ∨ k = 5 then decide (2 ≤ n) else if k = 6 ∨ k = 7 then n == 2 else if k = 13 then decide (n ≤ 64) else n == 0
theorem kidCount_c (k n : Int) (w : World) : Calls Tryz.prog 183 #[.int .i64 k, .int .i64 n] w fun e w' => e = .returned (.bool (kidCountF k n)) ∧ w' = w := by
  go_enter Tryz.func183, Tryz.ntmps183
  go_wp2
  all_goals (go_ret; exact ⟨ret_b (by rw [Bool.eq_iff_iff]; simp_all [kidCountF]; try omega), rfl⟩)
def usesTextF (k : Int) : Bool := decide (k = 8 ∨ k = 9 ∨ k = 10 ∨ k = 11 ∨ k = 14 ∨ k = 18 ∨ k = 20)
theorem usesText_c (k : Int) (w : World) : Calls Tryz.prog 181 #[.int .i64 k] w fun e w' => e = .returned (.bool (usesTextF k)) ∧ w' = w := by
  go_enter Tryz.func181, Tryz.ntmps181
  go_wp2
  all_goals (go_ret; exact ⟨ret_b (by rw [Bool.eq_iff_iff]; simp_all [usesTextF]; try omega), rfl⟩)
def numFitsF (k n : Int) : Bool :=
  if k = 6 then decide (1 ≤ n ∧ n ≤ 6) else if k = 7 then decide (n = 0 ∨ n = 1) else if k = 12 then decide (-999999999999999999 ≤ n ∧ n ≤ 999999999999999999) else if k = 14 ∨ k = 15 ∨ k = 16 ∨ k = 17 ∨ k = 18 then decide (1 ≤ n ∧ n ≤ 3) else n == 0
theorem numFits_c (k n : Int) (w : World) : Calls Tryz.prog 182 #[.int .i64 k, .int .i64 n] w fun e w' => e = .returned (.bool (numFitsF k n)) ∧ w' = w := by
  go_enter Tryz.func182, Tryz.ntmps182
  go_wp2
  all_goals (go_ret; exact ⟨ret_b (by rw [Bool.eq_iff_iff]; simp_all [numFitsF]; try omega), rfl⟩)
def kidFitsF (k d : Int) : Bool := if k = 3 ∨ k = 4 ∨ k = 5 ∨ k = 8 ∨ k = 9 ∨ k = 20 then isCondF d else if k = 13 then decide (d = 11 ∨ d = 12) else isTermF d
theorem kidFits_c (k d : Int) (w : World) : Calls Tryz.prog 129 #[.int .i64 k, .int .i64 d] w fun e w' => e = .returned (.bool (kidFitsF k d)) ∧ w' = w := by
  go_enter Tryz.func129, Tryz.ntmps129
  go_wp2_with (first | (go_at_call 130; refine (isCond_c _ _).mono ?_; rintro e w' ⟨rfl, rfl⟩) | (go_at_call 184; refine (isTerm_c _ _).mono ?_; rintro e w' ⟨rfl, rfl⟩))
  all_goals (go_ret; exact ⟨ret_b (by rw [Bool.eq_iff_iff]; simp_all [kidFitsF]; try omega), rfl⟩)
def bracketedF (k d : Int) : Bool := if k = 3 ∨ k = 4 then decide (d = 4 ∨ d = 5) else if k = 5 then d == 5 else false
theorem bracketed_c (k d : Int) (w : World) : Calls Tryz.prog 131 #[.int .i64 k, .int .i64 d] w fun e w' => e = .returned (.bool (bracketedF k d)) ∧ w' = w := by
  go_enter Tryz.func131, Tryz.ntmps131
  go_wp2
  all_goals (go_ret; exact ⟨ret_b (by rw [Bool.eq_iff_iff]; simp_all [bracketedF]; try omega), rfl⟩)
end Go.Proofs.YtldnkeackphilaaGreatDoor
/- show.partFits, fault, shape. -/
namespace Go.Proofs.YtldnkeackphilaaGreatDoor
open Go.RowKit

def partFitsF (p : Part) : Bool :=
  decide (1 ≤ p.kind) && decide (p.kind ≤ 20) && decide (p.text.size ≤ 127) && (p.text.toList.isEmpty || usesTextF p.kind) && numFitsF p.kind p.num && kidCountF p.kind p.kids.length
set_option maxHeartbeats 400000 in
theorem partFits_c (p : Part) (kv : Value) (w : World) (hp : PartR w p kv) : Calls Tryz.prog 128 #[.agg #[.int .i64 p.kind, .string p.text, .int .i64 p.num, kv]] w fun e w' => e = .returned (.bool (partFitsF p)) ∧ w' = w.alloc (.cells #[.int .i64 p.kind, .string p.text, .int .i64 p.num, kv] 66) := by
  obtain ⟨h1, h2, h3, A, c, rfl, h4, h5⟩ := hp
  obtain ⟨kind, text, num, kids⟩ := p
  clear h5
  go_enter Tryz.func128, Tryz.ntmps128
  go_wp2_with (first | (go_at_call 181; refine (usesText_c _ _).mono ?_; rintro e w' ⟨rfl, rfl⟩) | (go_at_call 182; refine (numFits_c _ _ _).mono ?_; rintro e w' ⟨rfl, rfl⟩) | (go_at_call 183; refine (kidCount_c _ _ _).mono ?_; rintro e w' ⟨rfl, rfl⟩))
  all_goals (go_ret; exact ⟨ret_b (by rw [Bool.eq_iff_iff]; simp_all [partFitsF]; try grind), rfl⟩)
theorem fault_c (code pl : Int) (w : World) : Calls Tryz.prog 81 #[.int .i64 code, .int .i64 pl] w fun e w' => e = .returned (.iface 114 (.pointer (some ⟨w.heap.size, 0, none⟩))) ∧ w' = w.alloc (.cells #[.int .i64 code, .int .i64 pl, .string ⟨#[]⟩, .nilIface] 118) := by
  go_enter Tryz.func81, Tryz.ntmps81
  go_wp2
  go_ret
  exact ⟨rfl, rfl⟩
/-- What a value of type error says: nil, or a new fault without name and cause. -/
def ErrV (w : World) (r : Option (Int × Int)) (v : Value) (w' : World) : Prop := Below w.heap.size w w' ∧
  match r with
  | none => v = .nilIface
  | some (c, pl) => ∃ b, v = .iface 114 (.pointer (some ⟨b, 0, none⟩)) ∧ w.heap.size ≤ b ∧ w'.heap[b]? = some (.cells #[.int .i64 c, .int .i64 pl, .string ⟨#[]⟩, .nilIface] 118)
def ErrP (w : World) (r : Option (Int × Int)) (e : Ending) (w' : World) : Prop := ∃ v, e = .returned v ∧ ErrV w r v w'
theorem errV_new {w W : World} (h : Below w.heap.size w W) (c pl : Int) {n : Nat} (hn : n = W.heap.size) : ErrV w (some (c, pl)) (.iface 114 (.pointer (some ⟨n, 0, none⟩))) (W.alloc (.cells #[.int .i64 c, .int .i64 pl, .string ⟨#[]⟩, .nilIface] 118)) :=
  ⟨h.alloc h.size _, _, rfl, hn ▸ h.size, hn ▸ heap_alloc_new W _⟩
theorem errP_new {w W : World} (h : Below w.heap.size w W) (c pl : Int) {n : Nat} (hn : n = W.heap.size) : ErrP w (some (c, pl)) (.returned (.iface 114 (.pointer (some ⟨n, 0, none⟩)))) (W.alloc (.cells #[.int .i64 c, .int .i64 pl, .string ⟨#[]⟩, .nilIface] 118)) :=
  ⟨_, rfl, errV_new h c pl hn⟩
end Go.Proofs.YtldnkeackphilaaGreatDoor
/- show.shape: the first fault but that of the nest. -/
namespace Go.Proofs.YtldnkeackphilaaGreatDoor
open Go.RowKit

def kindAt (ps : List Part) (k : Int) : Int := (ps[k.toNat]?.map Part.kind).getD 0
/-- May the part stand there, these parts being nobody's kid yet? -/
def partOk (ps : List Part) (free : List Int) (p : Part) : Bool :=
  partFitsF p && decide (p.kids.length ≤ free.length) && decide (p.kids = free.drop (free.length - p.kids.length)) && p.kids.all fun k => kidFitsF p.kind (kindAt ps k)
def shapeGo (ps : List Part) : List Part → Nat → List Int → Nat ⊕ List Int
  | [], _, free => .inr free
  | p :: r, i, free => if partOk ps free p then shapeGo ps r (i + 1) (free.take (free.length - p.kids.length) ++ [(i : Int)]) else .inl i
/-- The place of the first fault. -/
def shapeF (ps : List Part) : Option Int :=
  if ps.length = 0 then some 0 else if 1000 < ps.length then some 1000 else
  match shapeGo ps ps 0 [] with
  | .inl i => some i
  | .inr free => if isCondF (kindAt ps (ps.length - 1 : Nat)) && decide (free.length = 1) then none else some (ps.length - 1 : Nat)

def flt (c : Int) (r : Option Int) : Option (Int × Int) := r.map fun x => (c, x)
theorem shapeGo_bad {ps : List Part} {k : Nat} {p : Part} {free : List Int} (h : ps[k]? = some p) (hb : partOk ps free p = false) : shapeGo ps (ps.drop k) k free = .inl k := by
  obtain ⟨hk, rfl⟩ := List.getElem?_eq_some_iff.1 h
  rw [List.drop_eq_getElem_cons hk, shapeGo, hb]; rfl
theorem shapeGo_good {ps : List Part} {k : Nat} {p : Part} {free : List Int} (h : ps[k]? = some p) (hb : partOk ps free p = true) : shapeGo ps (ps.drop k) k free = shapeGo ps (ps.drop (k + 1)) (k + 1) (free.take (free.length - p.kids.length) ++ [(k : Int)]) := by
  obtain ⟨hk, rfl⟩ := List.getElem?_eq_some_iff.1 h
  rw [List.drop_eq_getElem_cons hk, shapeGo, hb]; rfl
theorem shapeF_inl {ps : List Part} {k : Nat} {p : Part} {free : List Int} (h0 : ¬ ps.length = 0) (h1 : ¬ 1000 < ps.length) (hg : shapeGo ps ps 0 [] = shapeGo ps (ps.drop k) k free) (h : ps[k]? = some p) (hb : partOk ps free p = false) : flt 130 (shapeF ps) = some (130, (k : Int)) := by
  rw [shapeGo_bad h hb] at hg
  simp [flt, shapeF, h0, h1, hg]
theorem partOk_fits {ps : List Part} {free : List Int} {p : Part} (h : partFitsF p = false) : partOk ps free p = false := by simp [partOk, h]
theorem partOk_few {ps : List Part} {free : List Int} {p : Part} (h : ¬ p.kids.length ≤ free.length) : partOk ps free p = false := by simp [partOk, h]
theorem partOk_kid {ps : List Part} {free : List Int} {p : Part} {j : Nat} {x y : Int} (hx : p.kids[j]? = some x) (hy : free[free.length - p.kids.length + j]? = some y) (h : x ≠ y) : partOk ps free p = false := by
  have : ¬ p.kids = free.drop (free.length - p.kids.length) := by
    intro e
    apply h
    have h2 := congrArg (fun l : List Int => l[j]?) e
    simp only [List.getElem?_drop, hx, hy] at h2
    exact Option.some.inj h2
  simp [partOk, this]
theorem partOk_kind {ps : List Part} {free : List Int} {p : Part} {j : Nat} {x : Int} (hx : p.kids[j]? = some x) (h : kidFitsF p.kind (kindAt ps x) = false) : partOk ps free p = false := by
  have : (p.kids.all fun k => kidFitsF p.kind (kindAt ps k)) = false := by
    rw [List.all_eq_false]
    exact ⟨x, List.mem_of_getElem? hx, by simpa using h⟩
  simp [partOk, this]
/-- The first m kids stand as they must. -/
def kidsUpto (ps : List Part) (free : List Int) (p : Part) (m : Nat) : Prop := ∀ j, j < m → ∃ x, p.kids[j]? = some x ∧ free[free.length - p.kids.length + j]? = some x ∧ kidFitsF p.kind (kindAt ps x) = true
theorem kidsUpto_succ {ps : List Part} {free : List Int} {p : Part} {m : Nat} {x : Int} (h : kidsUpto ps free p m) (hx : p.kids[m]? = some x) (hy : free[free.length - p.kids.length + m]? = some x) (hf : kidFitsF p.kind (kindAt ps x) = true) : kidsUpto ps free p (m + 1) := by
  intro j hj
  rcases Nat.lt_or_eq_of_le (Nat.le_of_lt_succ hj) with h1 | rfl
  · exact h j h1
  · exact ⟨x, hx, hy, hf⟩
theorem partOk_all {ps : List Part} {free : List Int} {p : Part} (h1 : partFitsF p = true) (h2 : p.kids.length ≤ free.length) (h3 : kidsUpto ps free p p.kids.length) : partOk ps free p = true := by
  have e : p.kids = free.drop (free.length - p.kids.length) := by
    apply List.ext_getElem?
    intro j
    rw [List.getElem?_drop]
    rcases Nat.lt_or_ge j p.kids.length with hj | hj
    · obtain ⟨x, hx, hy, _⟩ := h3 j hj
      rw [hx, hy]
    · rw [List.getElem?_eq_none hj, List.getElem?_eq_none (by omega)]
  have e2 : (p.kids.all fun k => kidFitsF p.kind (kindAt ps k)) = true := by
    rw [List.all_eq_true]
    intro x hx
    obtain ⟨j, hj, rfl⟩ := List.mem_iff_getElem.1 hx
    obtain ⟨x, hx, _, hf⟩ := h3 j hj
    rw [List.getElem?_eq_getElem hj] at hx
    injection hx with hx
    rw [hx]
    exact hf
  simp only [partOk, h1, h2, e2, decide_true, Bool.and_true, Bool.true_and, decide_eq_true_eq]
  exact e

theorem Tryz.info_int : (Tryz.prog.info? 3).map (fun i => (i.zero, i.size, i.bytes)) = some (some (.int .i64 0), 1, 8) := by kernel_rfl
theorem Tryz.info_int' : (Tryz.prog.info? 3).isSome = true := by kernel_rfl
set_option maxHeartbeats 4000000 in
set_option maxRecDepth 100000 in
theorem shape_c (ps : List Part) (v : Value) (w : World) (hp : PartsV w v ps) : Calls Tryz.prog 79 #[v] w (ErrP w (flt 130 (shapeF ps))) := by
  obtain ⟨A, c, rfl, hlen, hps⟩ := hp
  by_cases h0 : ps.length = 0
  · have hfin : Hid (flt 130 (shapeF ps) = some (130, 0)) := by unfold Hid; simp [flt, shapeF, h0]
    have h0' : ((ps.length : Int) == 0) = true := by simp [h0]
    clear hps h0
    go_enter Tryz.func79, Tryz.ntmps79
    go_wp2_with ((go_at_call 81; refine (fault_c _ _ _).mono ?_; rintro e w' ⟨rfl, rfl⟩))
    go_ret
    rw [hfin.out]
    exact errP_new (Below.refl _ _) _ _ rfl
  have h0' : ((ps.length : Int) == 0) = false := by rw [beq_eq_false_iff_ne]; omega
  by_cases h1 : 1000 < ps.length
  · have hfin : Hid (flt 130 (shapeF ps) = some (130, 1000)) := by unfold Hid; simp [flt, shapeF, h0, h1]
    clear hps
    go_enter Tryz.func79, Tryz.ntmps79
    go_wp2_with ((go_at_call 81; refine (fault_c _ _ _).mono ?_; rintro e w' ⟨rfl, rfl⟩))
    go_ret
    rw [hfin.out]
    exact errP_new (Below.refl _ _) _ _ rfl
  have hpos : 0 < ps.length := by omega
  obtain ⟨b, o, hAA⟩ : ∃ b o, A = some ⟨b, o, none⟩ := by
    obtain ⟨b, o, _, hA, _⟩ := hps 0 ps[0] (by simp [List.getElem?_eq_getElem hpos])
    exact ⟨b, o, hA⟩
  subst hAA
  have HP : PartsV w (.slice (some ⟨b, o, none⟩) ps.length c) ps := ⟨_, c, rfl, hlen, hps⟩
  clear hps
  have h1' : ¬ 1000 < ps.length := h1
  go_enter Tryz.func79, Tryz.ntmps79
  go_wp2
  go_loopw [3, 20] (fun vf i wr => ∃ (k : Nat) (free : List Int), k ≤ ps.length ∧ i = .int .i64 k ∧ free.length ≤ k ∧ (∀ x ∈ free, 0 ≤ x ∧ x < k) ∧ OwnInts wr w.heap.size vf free ∧ Below w.heap.size w wr ∧ shapeGo ps ps 0 [] = shapeGo ps (ps.drop k) k free) (fun vf i wr => ps.length - (intOf i).toNat)
  case atStart => exact ⟨0, [], Nat.zero_le _, rfl, Nat.le_refl _, by simp, World.ownsRow_nil _ _ _ _, Below.refl _ _, rfl⟩
  case round =>
    obtain ⟨k, free, hk, rfl, hfk, hfr, HO, HB, HG⟩ := hrel
    obtain ⟨A3, n, c3, rfl, hn, hf63, hfc⟩ := HO.shape'
    by_cases hlt : k < ps.length
    · have hget : ps[k]? = some ps[k] := List.getElem?_eq_getElem hlt
      obtain ⟨b', o', kv, hA, hbl, hr, hc0, hc1, hc2, hc3⟩ := (PartsV.below HP HB).get hget
      obtain ⟨rfl, rfl⟩ : b' = b ∧ o' = o := by simpa using hA.symm
      clear hA
      generalize hpp : ps[k] = p at *
      obtain ⟨Ak, ck, rfl, hkl, hkc⟩ := hr.2.2.2
      have HF : Hid (∀ h : partOk ps free p = false, flt 130 (shapeF ps) = some (130, (k : Int))) := fun h => shapeF_inl h0 h1 HG hget h
      have HG' : Hid (∀ h : partOk ps free p = true, shapeGo ps ps 0 [] = shapeGo ps (ps.drop (k + 1)) (k + 1) (free.take (free.length - p.kids.length) ++ [(k : Int)])) := fun h => HG.trans (shapeGo_good hget h)
      have hnk : n ≤ k := hn ▸ hfk
      have Hkc := Lib.hid hkc
      have Hfr := Lib.hid hfr
      have Hn := Lib.hid hn
      have HO' := Lib.hid HO
      have HB1 := (HB.alloc HB.size (.cells #[.int .i64 p.kind, .string p.text, .int .i64 p.num, .slice Ak p.kids.length ck] 66))
      have HB2 := (HB1.alloc HB1.size (.cells #[.int .i64 p.kind, .string p.text, .int .i64 p.num, .slice Ak p.kids.length ck] 66))
      have hsz := HB.size
      generalize hkn : p.kids.length = kl at *
      have Hkn := Lib.hid hkn
      clear hget hpp hkc HG hfr hfk hn HO hkn
      by_cases hpf : partFitsF p = true
      · by_cases hfl : kl ≤ n
        · obtain ⟨base, rfl⟩ : ∃ base, n = base + kl := ⟨n - kl, by omega⟩
          have hbase : ((base + kl : Nat) : Int) - (kl : Int) = base := by omega
          have Hb : Hid (free.length - p.kids.length = base) := by unfold Hid; rw [Hn.out, Hkn.out]; omega
          go_wp2_with (first | (go_at_call 128; refine (partFits_c p _ _ (hr.below ((Below.refl _ _).alloc (Nat.le_refl _) _))).mono ?_; rintro e w' ⟨rfl, rfl⟩))
          clear hbase
          go_loopw [47] (fun j wq => ∃ (m q : Nat), m ≤ kl ∧ j = .int .i64 m ∧ wq = ((wr.alloc (.cells #[.int .i64 p.kind, .string p.text, .int .i64 p.num, .slice Ak kl ck] 66)).alloc (.cells #[.int .i64 p.kind, .string p.text, .int .i64 p.num, .slice Ak kl ck] 66)).drewN q ∧ Hid (kidsUpto ps free p m)) (fun j wq => kl - (intOf j).toNat)
          case atStart => exact ⟨0, 0, Nat.zero_le _, rfl, rfl, Lib.hid (fun j hj => absurd hj (by omega))⟩
          case round =>
            obtain ⟨m, q, hm, rfl, rfl, hall⟩ := hrel
            by_cases hml : m < kl
            · obtain ⟨x, hx⟩ : ∃ x, p.kids[m]? = some x := ⟨_, List.getElem?_eq_getElem (by have := Hkn.out; omega)⟩
              obtain ⟨y, hy⟩ : ∃ y, free[base + m]? = some y := ⟨_, List.getElem?_eq_getElem (by have := Hn.out; omega)⟩
              obtain ⟨g, hgA, hg1, hg2, hgc⟩ := HO'.out.form' (by have := Hn.out; omega)
              subst hgA
              obtain ⟨hR, bk, ok, hAk, hbk, hck⟩ := Hkc.out m x hx
              subst hAk
              have hgm := hgc (base + m) y hy
              have hyr := Hfr.out y (List.mem_of_getElem? hy)
              have Hx := Lib.hid hx
              have Hy : Hid (free[free.length - p.kids.length + m]? = some y) := by unfold Hid; rw [Hb.out]; exact hy
              clear hgc hx hy
              have hs1 : IntKind.i64.wrap ((base : Int) + m) = ((base + m : Nat) : Int) := by rw [IntWalk.i64_in _ (by omega)]; omega
              have hs2 : (0 : Int) ≤ ((base + m : Nat) : Int) := by omega
              have hs3 : ((base + m : Nat) : Int) < ((base + kl : Nat) : Int) := by omega
              by_cases heq : x = y
              · obtain ⟨xn, rfl⟩ : ∃ xn : Nat, x = xn := Int.eq_ofNat_of_zero_le (by omega)
                have hxl : xn < ps.length := by omega
                obtain ⟨b5, o5, kv5, hA5, hbl5, hr5, hd0, -⟩ := (PartsV.below HP HB).get (List.getElem?_eq_getElem hxl)
                obtain ⟨rfl, rfl⟩ : b5 = b' ∧ o5 = o' := by simpa using hA5.symm
                clear hA5
                have Hkx : Hid (kindAt ps xn = ps[xn].kind) := by unfold Hid; simp [kindAt, List.getElem?_eq_getElem hxl]
                generalize ps[xn].kind = kx at *
                have hne' : ((xn : Int) != y) = false := by simpa using heq
                have Heq := Lib.hid heq
                clear heq hyr
                by_cases hkf : kidFitsF p.kind kx = true
                · have HS : Hid (kidsUpto ps free p (m + 1)) := kidsUpto_succ hall.out Hx.out (Heq.out ▸ Hy.out) (by rw [Hkx.out]; exact hkf)
                  go_wp2
                  go_quiet ((go_at_call 129; exact quiet_q (kidFits_c _ _ _)))
                  go_wp2
                  go_roundw
                  case rel => exact ⟨m + 1, _, by omega, by go_num, rfl, HS⟩
                  case measure => simp [intOf]; omega
                · have hkf' : kidFitsF p.kind kx = false := by simpa using hkf
                  go_wp2
                  go_quiet ((go_at_call 129; exact quiet_q (kidFits_c _ _ _)))
                  go_wp2_with (go_at_call 81; refine (fault_c _ _ _).mono ?_; rintro e w' ⟨rfl, rfl⟩)
                  go_ret
                  rw [HF.out (partOk_kind Hx.out (by rw [Hkx.out]; exact hkf'))]
                  exact errP_new (below_drewN HB2 _) _ _ (by simp)
              · have hne : (x == y) = false := by simpa using heq
                have hne' : (x != y) = true := by simpa using heq
                go_wp2
                go_quiet (fail)
                go_wp2_with (go_at_call 81; refine (fault_c _ _ _).mono ?_; rintro e w' ⟨rfl, rfl⟩)
                go_ret
                rw [HF.out (partOk_kid Hx.out Hy.out heq)]
                exact errP_new (below_drewN HB2 _) _ _ (by simp)
            · have hsl := cut_h (P := Tryz.prog) 31 3 Tryz.underlying31 Tryz.info_int' A3 (base + kl) c3 base (by omega) hfc
              obtain rfl : m = kl := by omega
              have HO2 := (HO'.out.take' base (by have := Hn.out; omega))
              have hl2 : (free.take base).length = base := by have := Hn.out; simp; omega
              have HO3 : Hid (OwnInts (((wr.alloc (.cells #[.int .i64 p.kind, .string p.text, .int .i64 p.num, .slice Ak m ck] 66)).alloc (.cells #[.int .i64 p.kind, .string p.text, .int .i64 p.num, .slice Ak m ck] 66)).drewN q) w.heap.size (.slice A3 base c3) (free.take base)) := HO2.below (below_drewN ((below_box _ _).alloc (by simp) _) _)
              have Hl2 := Lib.hid hl2
              clear HO2 hl2
              go_wp2_with (at_builtin; refine app1 (P := Tryz.prog) w.heap.size rfl _ _ 31 3 (.int .i64 0) 1 8 rfl Tryz.underlying31 Tryz.info_int rfl (by decide) (.slice A3 base c3) base ((free.take base).map (Value.int .i64)) [.int .i64 k] rfl rfl rfl rfl ?side ?_; rotate_left; intro v1 w1 hown hg hat)
              case side => exact ⟨by simp, by have := HO3.out; unfold OwnInts OwnF at this; rwa [Hl2.out] at this, by simp; omega, by omega, by omega⟩
              have HBn : Below w.heap.size w w1 := grown_below (below_drewN HB2 q) (by simp; omega) hg (fun b hb => (World.ownsRow.lt HO3.out b hb).1)
              have HOn : OwnInts w1 w.heap.size v1 (free.take base ++ [(k : Int)]) := by
                unfold OwnInts OwnF
                rw [List.length_append, Hl2.out, List.map_append]
                exact hown
              have HGn : shapeGo ps ps 0 [] = shapeGo ps (ps.drop (k + 1)) (k + 1) (free.take base ++ [(k : Int)]) := by
                have := HG'.out (partOk_all hpf (by rw [Hn.out, Hkn.out]; omega) (by rw [Hkn.out]; exact hall.out))
                rwa [Hn.out, Nat.add_sub_cancel] at this
              have hfrn : ∀ x ∈ free.take base ++ [(k : Int)], 0 ≤ x ∧ x < ((k + 1 : Nat) : Int) := by
                intro x hx
                rcases List.mem_append.1 hx with hx | hx
                · have := Hfr.out x (List.mem_of_mem_take hx); omega
                · simp at hx; omega
              have hln : (free.take base ++ [(k : Int)]).length ≤ k + 1 := by rw [List.length_append, Hl2.out]; simp; omega
              have HH := Lib.hid (And.intro hln (And.intro hfrn (And.intro HOn (And.intro HBn HGn))))
              clear hown hg hat HBn HOn HGn hfrn hln
              go_wp2
              go_roundw
              case rel => exact ⟨k + 1, _, by omega, by go_num, HH.out.1, HH.out.2.1, HH.out.2.2.1, HH.out.2.2.2.1, HH.out.2.2.2.2⟩
              case measure => simp [intOf]; omega
        · go_wp2_with (first | (go_at_call 128; refine (partFits_c p _ _ (hr.below ((Below.refl _ _).alloc (Nat.le_refl _) _))).mono ?_; rintro e w' ⟨rfl, rfl⟩) | (go_at_call 81; refine (fault_c _ _ _).mono ?_; rintro e w' ⟨rfl, rfl⟩))
          go_ret
          rw [HF.out (partOk_few (by rw [Hn.out, Hkn.out]; exact hfl))]
          exact errP_new HB2 _ _ (by simp)
      · go_wp2_with (first | (go_at_call 128; refine (partFits_c p _ _ (hr.below ((Below.refl _ _).alloc (Nat.le_refl _) _))).mono ?_; rintro e w' ⟨rfl, rfl⟩) | (go_at_call 81; refine (fault_c _ _ _).mono ?_; rintro e w' ⟨rfl, rfl⟩))
        go_ret
        rw [HF.out (partOk_fits (by simpa using hpf))]
        exact errP_new HB2 _ _ (by simp)
    · obtain rfl : k = ps.length := by omega
      have hlast : ps.length - 1 < ps.length := by omega
      obtain ⟨b', o', kv, hA, hbl, hr, hc0, -⟩ := (PartsV.below HP HB).get (List.getElem?_eq_getElem hlast)
      obtain ⟨rfl, rfl⟩ : b' = b ∧ o' = o := by simpa using hA.symm
      clear hA
      have hk1 : kindAt ps (ps.length - 1 : Nat) = ps[ps.length - 1].kind := by simp [kindAt, List.getElem?_eq_getElem hlast]
      generalize ps[ps.length - 1].kind = kx at *
      have HS : Hid (∀ r, (if isCondF kx && decide (n = 1) then none else some ((ps.length - 1 : Nat) : Int)) = r → flt 130 (shapeF ps) = flt 130 r) := by
        intro r hr
        rw [List.drop_length] at HG
        simp only [shapeF, h0, h1, HG, shapeGo, ← hr, hk1, hn, ↓reduceIte]
      have HB' := Lib.hid HB
      clear hk1 HG hfr hfk hn HO HB
      have hs1 : ((ps.length : Int) - 1) = ((ps.length - 1 : Nat) : Int) := by omega
      by_cases hcd : isCondF kx = true
      · by_cases hn1 : n = 1
        · have hn1' : ((n : Int) != 1) = false := by simp [hn1]
          go_wp2_with (go_at_call 130; refine (isCond_c _ _).mono ?_; rintro e w' ⟨rfl, rfl⟩)
          go_ret
          rw [HS.out none (by simp [hcd, hn1])]
          exact ⟨_, rfl, HB'.out, rfl⟩
        · have hn1' : ((n : Int) != 1) = true := by simp; omega
          go_wp2_with (first | (go_at_call 130; refine (isCond_c _ _).mono ?_; rintro e w' ⟨rfl, rfl⟩) | (go_at_call 81; refine (fault_c _ _ _).mono ?_; rintro e w' ⟨rfl, rfl⟩))
          go_ret
          rw [HS.out _ (by simp [hn1]; rfl)]
          exact errP_new HB'.out _ _ (by simp)
      · have hcd' : isCondF kx = false := by simpa using hcd
        go_wp2_with (first | (go_at_call 130; refine (isCond_c _ _).mono ?_; rintro e w' ⟨rfl, rfl⟩) | (go_at_call 81; refine (fault_c _ _ _).mono ?_; rintro e w' ⟨rfl, rfl⟩))
        go_ret
        rw [HS.out _ (by simp [hcd']; rfl)]
        exact errP_new HB'.out _ _ (by simp)
end Go.Proofs.YtldnkeackphilaaGreatDoor
/- show.nests, Nest, Valid. -/
namespace Go.Proofs.YtldnkeackphilaaGreatDoor
open Go.RowKit

structure WF (ps : List Part) : Prop where
  pos : 0 < ps.length
  le : ps.length ≤ 1000
  fits : ∀ (i : Nat) p, ps[i]? = some p → partFitsF p = true
  kids : ∀ (i : Nat) p, ps[i]? = some p → ∀ k ∈ p.kids, 0 ≤ k ∧ k < i
  kinds : ∀ (i : Nat) p, ps[i]? = some p → ∀ k ∈ p.kids, kidFitsF p.kind (kindAt ps k) = true
  last : isCondF (kindAt ps (ps.length - 1 : Nat)) = true
theorem shapeGo_inr (ps : List Part) : ∀ (l : List Part) (i : Nat) (free f : List Int), shapeGo ps l i free = .inr f → (∀ x ∈ free, 0 ≤ x ∧ x < (i : Int)) →
    ∀ (j : Nat) p, l[j]? = some p → partFitsF p = true ∧ (∀ k ∈ p.kids, 0 ≤ k ∧ k < ((i + j : Nat) : Int)) ∧ ∀ k ∈ p.kids, kidFitsF p.kind (kindAt ps k) = true := by
  intro l
  induction l with
  | nil => intro i free f _ _ j p hj; simp at hj
  | cons q r ih =>
    intro i free f h hf j p hj
    rw [shapeGo] at h
    split at h
    · rename_i hok
      simp only [partOk, Bool.and_eq_true, decide_eq_true_eq] at hok
      obtain ⟨⟨⟨h1, h2⟩, h3⟩, h4⟩ := hok
      cases j with
      | zero =>
        simp at hj
        subst hj
        refine ⟨h1, fun k hk => ?_, List.all_eq_true.1 h4⟩
        rw [h3] at hk
        simpa using hf k (List.mem_of_mem_drop hk)
      | succ j =>
        have := ih (i + 1) _ f h (by
          intro x hx
          rcases List.mem_append.1 hx with hx | hx
          · have := hf x (List.mem_of_mem_take hx); omega
          · simp at hx; omega) j p (by simpa using hj)
        rwa [show i + (j + 1) = i + 1 + j from by omega]
    · cases h
theorem wf_of_shape {ps : List Part} (h : shapeF ps = none) : WF ps := by
  unfold shapeF at h
  split at h
  · cases h
  · rename_i h0
    split at h
    · cases h
    · rename_i h1
      split at h
      · cases h
      · rename_i f hf
        have hh := shapeGo_inr ps ps 0 [] f hf (by simp)
        split at h
        · rename_i hl
          simp only [Bool.and_eq_true, decide_eq_true_eq] at hl
          exact ⟨by omega, by omega, fun i p hi => (hh i p hi).1, fun i p hi k hk => by simpa using (hh i p hi).2.1 k hk, fun i p hi => (hh i p hi).2.2, hl.1⟩
        · cases h

def deepKind (k : Int) : Bool := decide (k = 3 ∨ k = 8 ∨ k = 9 ∨ k = 20 ∨ k = 19)
def kidsSet (ps : List Part) (pk below : Int) (kids : List Int) (out : List Int) : List Int :=
  kids.foldl (fun out k => out.set k.toNat (below + if bracketedF pk (kindAt ps k) then 1 else 0)) out
def nestStep (ps : List Part) (out : List Int) (i : Nat) : List Int :=
  match ps[i]? with
  | none => out
  | some p => kidsSet ps p.kind (out.getD i 0 + if deepKind p.kind then 1 else 0) p.kids out
def nestsF (ps : List Part) : List Int := (List.range ps.length).reverse.foldl (nestStep ps) (List.replicate ps.length 0)

theorem kidsSet_len (ps : List Part) (pk below : Int) : ∀ (kids : List Int) (out : List Int), (kidsSet ps pk below kids out).length = out.length := by
  intro kids
  induction kids with
  | nil => intro out; rfl
  | cons k r ih => intro out; simp only [kidsSet, List.foldl_cons] at ih ⊢; rw [ih]; simp
theorem kidsSet_snoc (ps : List Part) (pk below : Int) (kids : List Int) (k : Int) (out : List Int) : kidsSet ps pk below (kids ++ [k]) out = (kidsSet ps pk below kids out).set k.toNat (below + if bracketedF pk (kindAt ps k) then 1 else 0) := by
  simp [kidsSet, List.foldl_append]
theorem kidsSet_bound (ps : List Part) (pk below M : Int) (h0 : 0 ≤ below) (hM : below + 1 ≤ M) : ∀ (kids : List Int) (out : List Int), (∀ x ∈ out, 0 ≤ x ∧ x ≤ M) → ∀ x ∈ kidsSet ps pk below kids out, 0 ≤ x ∧ x ≤ M := by
  intro kids
  induction kids with
  | nil => intro out h; exact h
  | cons k r ih =>
    intro out h
    simp only [kidsSet, List.foldl_cons] at ih ⊢
    refine ih _ fun x hx => ?_
    rcases List.mem_or_eq_of_mem_set hx with h1 | rfl
    · exact h x h1
    · split <;> omega
theorem nests_next {ps : List Part} {i : Nat} {p : Part} {out : List Int} (hp : ps[i]? = some p) : (List.range (i + 1)).reverse.foldl (nestStep ps) out = (List.range i).reverse.foldl (nestStep ps) (kidsSet ps p.kind (out.getD i 0 + if deepKind p.kind then 1 else 0) p.kids out) := by
  rw [List.range_succ, List.reverse_append]
  simp [nestStep, hp]

theorem Tryz.make_ints (n : Nat) (hn : n ≤ 35184372088064) : ∀ W : World, (Instr.makeSlice 31 (.int .i64 (n : Int)) (.int .i64 (n : Int))).run Tryz.prog W = .ok (.slice (some ⟨W.heap.size, 0, none⟩) n n) (W.alloc (.cells (madeCells #[.int .i64 0] n) 3)) := by
  intro W
  exact run_make_row' 31 3 (.int .i64 0) 8 Tryz.underlying31 Tryz.info_int rfl .i64 .i64 n (by omega) (by omega) W

set_option maxHeartbeats 4000000 in
set_option maxRecDepth 100000 in
theorem nests_c (ps : List Part) (v : Value) (w : World) (hp : PartsV w v ps) (hwf : WF ps) :
    Calls Tryz.prog 80 #[v] w fun e w' => ∃ v, e = .returned v ∧ IntsV w' v (nestsF ps) ∧ Below w.heap.size w w' := by
  obtain ⟨A, c, rfl, hlen, hps⟩ := hp
  have hpos := hwf.pos
  have hle := hwf.le
  obtain ⟨b, o, hAA⟩ : ∃ b o, A = some ⟨b, o, none⟩ := by
    obtain ⟨b, o, _, hA, _⟩ := hps 0 ps[0] (by simp [List.getElem?_eq_getElem hpos])
    exact ⟨b, o, hA⟩
  subst hAA
  have HP : PartsV w (.slice (some ⟨b, o, none⟩) ps.length c) ps := ⟨_, c, rfl, hlen, hps⟩
  clear hps
  have hmk := Tryz.make_ints ps.length (by omega)
  have HWF := Lib.hid hwf
  clear hwf
  have hs1 : ((ps.length : Int) - 1) = ((ps.length - 1 : Nat) : Int) := by omega
  go_enter Tryz.func80, Tryz.ntmps80
  go_wp2
  clear hmk hs1
  go_loopw [4] (fun i wr => ∃ (m : Nat) (out : List Int), m ≤ ps.length ∧ i = .int .i64 ((m : Int) - 1) ∧ Hid (out.length = ps.length) ∧ Hid (∀ x ∈ out, 0 ≤ x ∧ x ≤ 2 * ((ps.length : Int) - m)) ∧ Hid (OwnInts wr w.heap.size (.slice (some ⟨w.heap.size, 0, none⟩) ps.length ps.length) out) ∧ Below w.heap.size w wr ∧ Hid (nestsF ps = (List.range m).reverse.foldl (nestStep ps) out)) (fun i wr => (intOf i + 1).toNat)
  case atStart =>
    refine ⟨ps.length, _, Nat.le_refl _, ?_, Lib.hid List.length_replicate, Lib.hid ?_, Lib.hid (OwnF.made 0 w _ _ (Nat.le_refl _) (by omega)), below_box _ _, Lib.hid rfl⟩
    · congr 1; omega
    · intro x hx
      have := List.eq_of_mem_replicate hx
      omega
  case round =>
    obtain ⟨m, out, hm, rfl, Hol, Hob, HO, HB, HG⟩ := hrel
    by_cases hm0 : m = 0
    · subst hm0
      have hfin := HG.out
      simp only [List.range_zero, List.reverse_nil, List.foldl_nil] at hfin
      have Hfin := Lib.hid hfin
      clear hfin
      go_wp2
      go_ret
      refine ⟨_, rfl, ?_, HB⟩
      rw [Hfin.out, ← Hol.out]
      have h2 := HO.out
      rw [← Hol.out] at h2
      exact h2.reads (by have := Hol.out; omega) (fun x hx => by have := Hob.out x hx; exact ⟨by omega, by omega⟩)
    · obtain ⟨i, rfl⟩ : ∃ i, m = i + 1 := ⟨m - 1, by omega⟩
      have hi : i < ps.length := by omega
      have hget : ps[i]? = some ps[i] := List.getElem?_eq_getElem hi
      obtain ⟨b', o', kv, hA, hbl0, hr, hd0, hd1, hd2, hd3⟩ := HP.get hget
      obtain ⟨rfl, rfl⟩ : b' = b ∧ o' = o := by simpa using hA.symm
      have hc0 := cell_below HB hd0
      have hc1 := cell_below HB hd1
      have hc2 := cell_below HB hd2
      have hc3 := cell_below HB hd3
      have hbl : b' < wr.heap.size := Nat.lt_of_lt_of_le hbl0 HB.size
      clear hA hd0 hd1 hd2 hd3
      have hkr := HWF.out.kids i _ hget
      generalize hpp : ps[i] = p at *
      obtain ⟨Ak, ck, rfl, hkl, hkc⟩ := hr.2.2.2
      obtain ⟨oi, hoi⟩ : ∃ oi, out[i]? = some oi := ⟨_, List.getElem?_eq_getElem (by have := Hol.out; omega)⟩
      have hoib := Hob.out oi (List.mem_of_getElem? hoi)
      have Hoi : Hid (out.getD i 0 = oi) := by unfold Hid; simp [List.getD_eq_getElem?_getD, hoi]
      obtain ⟨g', hg', _, hgl, hgc⟩ := HO.out.form' (by have := Hol.out; omega)
      have hc5 := hgc i oi hoi
      obtain rfl : w.heap.size = g' := by simpa using hg'
      have Hkr := Lib.hid hkr
      have Hget := Lib.hid hget
      have Hkc : Hid (IntsV w (.slice Ak p.kids.length ck) p.kids) := ⟨Ak, ck, rfl, hkl, hkc⟩
      clear hget hkc hkr hpp hgc hoi hg'
      have hs2 : (((i + 1 : Nat) : Int) - 1) = (i : Int) := by omega
      rw [hs2]
      clear hs2
      generalize hdk : (if deepKind p.kind then (1 : Int) else 0) = dk
      have Hdk := Lib.hid hdk
      have hdkb : 0 ≤ dk ∧ dk ≤ 1 := by rw [← hdk]; split <;> omega
      clear hdk
      go_upto_block 2 with fail
      go_cut [6] (fun s6 wx => s6 = .int .i64 (oi + dk) ∧ wx = wr.alloc (.cells #[.int .i64 p.kind, .string p.text, .int .i64 p.num, .slice Ak p.kids.length ck] 66))
      case first =>
        by_cases hd : deepKind p.kind = true
        · have Hdk' : Hid (dk = 1) := by unfold Hid; rw [← Hdk.out, hd]; rfl
          simp only [deepKind, decide_eq_true_eq] at hd
          rcases hd with h | h | h | h | h
          all_goals
            go_wp2
            go_meet
            exact ⟨by rw [Hdk'.out], by rw [h]⟩
        · have Hdk' : Hid (dk = 0) := by unfold Hid; rw [← Hdk.out]; simp [hd]
          simp only [deepKind, decide_eq_true_eq, not_or] at hd
          obtain ⟨h1, h2, h3, h4, h5⟩ := hd
          go_wp2
          go_meet
          exact ⟨by rw [Hdk'.out]; simp, rfl⟩
      case rest =>
        obtain ⟨rfl, rfl⟩ := hcut
        generalize hW : wr.alloc (.cells #[.int .i64 p.kind, .string p.text, .int .i64 p.num, .slice Ak p.kids.length ck] 66) = W at *
        have hbp : W.cell? ⟨wr.heap.size, 0, none⟩ = some (.int .i64 p.kind) := by rw [← hW]; simp
        have hbk : W.cell? ⟨wr.heap.size, 3, none⟩ = some (.slice Ak p.kids.length ck) := by rw [← hW]; simp
        have HBW : Below w.heap.size w W := hW ▸ HB.alloc HB.size _
        have HOW : Hid (OwnInts W w.heap.size (.slice (some ⟨w.heap.size, 0, none⟩) ps.length ps.length) (kidsSet ps p.kind (oi + dk) (p.kids.take 0) out)) := by
          have := HO.out.below (below_box _ (.cells #[.int .i64 p.kind, .string p.text, .int .i64 p.num, .slice Ak p.kids.length ck] 66))
          rw [hW] at this
          exact this
        have hbs : wr.heap.size < W.heap.size := by rw [← hW]; simp
        have hgs : w.heap.size < wr.heap.size := by omega
        clear hW hc0 hc1 hc2 hc3 HO hc5 HB hbl hr
        generalize hkl' : p.kids.length = kl at *
        have Hkl := Lib.hid hkl'
        clear hkl'
        go_wp2
        clear hbk
        obtain ⟨wo, rfl⟩ : ∃ wo : World, wo = wr := ⟨_, rfl⟩
        go_loopw [40] (fun j wq => ∃ m : Nat, m ≤ kl ∧ j = .int .i64 m ∧ wq.cell? ⟨wo.heap.size, 0, none⟩ = some (.int .i64 p.kind) ∧ wo.heap.size < wq.heap.size ∧ Below w.heap.size w wq ∧ Hid (OwnInts wq w.heap.size (.slice (some ⟨w.heap.size, 0, none⟩) ps.length ps.length) (kidsSet ps p.kind (oi + dk) (p.kids.take m) out))) (fun j wq => kl - (intOf j).toNat)
        case atStart => exact ⟨0, Nat.zero_le _, rfl, hbp, hbs, HBW, HOW⟩
        case round =>
          obtain ⟨m, hm, rfl, hbp, hbs, HBQ, HOQ⟩ := hrel
          by_cases hml : m < kl
          · obtain ⟨x, hx⟩ : ∃ x, p.kids[m]? = some x := ⟨_, List.getElem?_eq_getElem (by have := Hkl.out; omega)⟩
            obtain ⟨hR, bk, ok, hAk, hbk, hck⟩ := Hkc.out.get m x hx
            subst hAk
            have hxr := Hkr.out x (List.mem_of_getElem? hx)
            obtain ⟨xn, rfl⟩ : ∃ xn : Nat, x = xn := Int.eq_ofNat_of_zero_le (by omega)
            have hck' := cell_below HBQ hck
            have hbk' : bk < wr.heap.size := Nat.lt_of_lt_of_le hbk HBQ.size
            have hxl : xn < ps.length := by omega
            obtain ⟨b5, o5, kv5, hA5, hbl5, hr5, hd0, -⟩ := HP.get (List.getElem?_eq_getElem hxl)
            obtain ⟨rfl, rfl⟩ : b5 = b' ∧ o5 = o' := by simpa using hA5.symm
            have hd0' := cell_below HBQ hd0
            have hbl5' : b5 < wr.heap.size := Nat.lt_of_lt_of_le hbl5 HBQ.size
            have Hkx : Hid (kindAt ps xn = ps[xn].kind) := by unfold Hid; simp [kindAt, List.getElem?_eq_getElem hxl]
            generalize ps[xn].kind = kx at *
            have HL : Hid ((kidsSet ps p.kind (oi + dk) (p.kids.take m) out).length = ps.length) := Lib.hid (by rw [kidsSet_len]; exact Hol.out)
            obtain ⟨y, hy⟩ : ∃ y, (kidsSet ps p.kind (oi + dk) (p.kids.take m) out)[xn]? = some y := ⟨_, List.getElem?_eq_getElem (by have := HL.out; omega)⟩
            obtain ⟨g', hg', _, hgl, hgc⟩ := HOQ.out.form' (by have := HL.out; omega)
            obtain rfl : w.heap.size = g' := by simpa using hg'
            have hcy := hgc xn y hy
            have hfz := HOQ.out.free xn
            have hng : (w.heap.size == b5) = false := by simp; omega
            have Hx := Lib.hid hx
            clear hgc hy hg' hck hd0 hA5 hx
            have hst := HOQ.out.store HL.out xn (oi + dk)
            have hst2 := fun q => ((hst.1.drewN q).store (by rw [List.length_set]; exact HL.out) xn (oi + dk + 1)).1
            have Hsn : Hid (∀ bb, bracketedF p.kind kx = bb → kidsSet ps p.kind (oi + dk) (p.kids.take (m + 1)) out = (kidsSet ps p.kind (oi + dk) (p.kids.take m) out).set xn (oi + dk + if bb then 1 else 0)) := by
              intro bb hbb
              rw [List.take_add_one, Hx.out, Option.toList_some, kidsSet_snoc, Hkx.out, hbb]
              simp
            have HS1 := Lib.hid hst.1
            have HS2 := Lib.hid hst2
            clear hst hst2
            have HBS := HBQ.setCell (p := ⟨w.heap.size, xn, none⟩) (Nat.le_refl _) (.int .i64 (oi + dk))
            go_wp2
            go_quiet ((go_at_call 131; exact Calls.quiet_of_same (bracketed_c _ _ _)))
            go_wp2
            · go_roundw
              case rel => exact ⟨m + 1, by omega, by go_num, cell_set_ne (by simp; omega) (cell_set_ne (by simp; omega) hbp), by simp [World.setCell]; omega, (below_drewN HBS nq).setCell (Nat.le_refl _) _, by rw [Hsn.out true (by assumption), ← List.set_set (a := oi + dk)]; exact HS2.out nq⟩
              case measure => simp [intOf]; try omega
            · go_roundw
              case rel => exact ⟨m + 1, by omega, by go_num, cell_set_ne (by simp; omega) hbp, by simp [World.setCell]; omega, below_drewN HBS nq, by rw [Hsn.out false (by assumption)]; simp only [Bool.false_eq_true, ↓reduceIte, Int.add_zero]; exact HS1.out.drewN nq⟩
              case measure => simp [intOf]; try omega
          · obtain rfl : m = kl := by omega
            have HN : Hid (nestsF ps = (List.range i).reverse.foldl (nestStep ps) (kidsSet ps p.kind (oi + dk) (p.kids.take m) out)) := by
              unfold Hid
              rw [HG.out, nests_next Hget.out, Hoi.out, Hdk.out, ← Hkl.out, List.take_length]
            have HL : Hid ((kidsSet ps p.kind (oi + dk) (p.kids.take m) out).length = ps.length) := Lib.hid (by rw [kidsSet_len]; exact Hol.out)
            have HBd : Hid (∀ x ∈ kidsSet ps p.kind (oi + dk) (p.kids.take m) out, 0 ≤ x ∧ x ≤ 2 * ((ps.length : Int) - i)) := Lib.hid (kidsSet_bound ps _ _ _ (by omega) (by omega) _ _ (fun x hx => by have := Hob.out x hx; omega))
            go_wp2
            go_roundw
            case rel => exact ⟨i, _, by omega, by go_num, HL, HBd, HOQ, HBQ, HN⟩
            case measure => simp [intOf]; try omega
end Go.Proofs.YtldnkeackphilaaGreatDoor
