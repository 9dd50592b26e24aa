/- norm's functions by the linear calculus: writing a tree. -/
import Derived.Test.YtldnkeackphilaaGreatDoorNd18
import Derived.Test.YtldnkeackphilaaGreatDoorNd14
import Derived.Test.YtldnkeackphilaaGreatDoorNd11
import Derived.Test.YtldnkeackphilaaGreatDoorNd13
import Derived.Test.YtldnkeackphilaaGreatDoorNd17
set_option linter.unusedSimpArgs false
set_option linter.unusedVariables false
set_option linter.unusedSectionVars false
namespace Go.Proofs.YtldnkeackphilaaGreatDoor.X
open Go.RowKit

set_option maxRecDepth 8000
@[simp] theorem tr_binX (op : BinOp) (t : Tr) : binX op (treeA t) (.imm (.pointer none)) = eqlA op false := by simpa [selA_some] using sel_binX op (some t)
@[simp] theorem tr_binXC (P : Program) (op : BinOp) (T : TypeId) (c : Bool) (t : Tr) : binXC P op T c (treeA t) (.imm (.pointer none)) = (eqlC op ∧ ptrP P T = true) := by simpa [selA_some] using sel_binXC P op T c (some t)
def selsR (n : Nat) (l : List (List PartD)) : Nat × Blk := (n, .row 22 (l.map fun x => [partsA x]))
def listR (n : Nat) (l : List PartD) : Nat × Blk := (n, .row 63 (l.map partCs))
def selsC : Option (List (List PartD)) → AV
  | none => .nl
  | some l => .rw 1001 0 l.length
def listC : Option (List PartD) → AV
  | none => .nl
  | some l => .rw 1002 0 l.length
def lentW (ls : Option (List PartD)) (ss : Option (List (List PartD))) : List (Nat × Blk) :=
  (1000, .box 104 [selsC ss]) :: ((match ss with | none => [] | some l => [selsR 1001 l]) ++ (match ls with | none => [] | some l => [listR 1002 l]))
def doneW (q : List PartD × List (List PartD)) : List (Nat × Blk) := [(1000, .box 104 [.rw 2001 0 q.2.length]), selsR 2001 q.2, listR 2000 q.1]
theorem kids_le : ∀ l : List Tr, l.length ≤ cntKs l
  | [] => by simp
  | t :: r => by have := kids_le r; have := cnt_one t; simp only [List.length_cons, cntKs]; omega
theorem sel_lt {t u : Tr} (h : t.sel = some u) : cntT u < cntT t := by rw [cnt_kids t, h]; dsimp only; omega
def WriteC (t : Tr) : Prop := ∀ (ls : Option (List PartD)) (ss : Option (List (List PartD))), (ls.getD []).length + cntT t ≤ 100000 → (ss.getD []).length + cntT t ≤ 100000 →
  Hs Tryz.prog 39 [.ref 1000 0, treeA t, listC ls] (lentW ls ss) (.rw 2000 0 (writeT t (ls.getD []) (ss.getD [])).1.length) [1000] (doneW (writeT t (ls.getD []) (ss.getD [])))
theorem foldK_len (l : List Tr) (list : List PartD) (sels : List (List PartD)) (at_ : List Int) : (l.foldl stepK (list, sels, at_)).1.length ≤ list.length + cntKs l ∧ (l.foldl stepK (list, sels, at_)).2.1.length ≤ sels.length + cntKs l := by
  rw [← writeKs_fold]; exact writeKs_len l list sels at_
theorem foldK_at : ∀ (l : List Tr) (x : List PartD × List (List PartD) × List Int), (l.foldl stepK x).2.2.length = x.2.2.length + l.length
  | [], x => by simp
  | t :: r, x => by rw [List.foldl_cons, foldK_at r]; simp [stepK]; omega
set_option maxHeartbeats 4000000 in
theorem write_aux (t : Tr) (IH : ∀ u, cntT u < cntT t → WriteC u) : WriteC t := by
  intro ls ss hl hs
  have hcnt := cnt_kids t
  have hkl := kids_le t.kids
  refine hsX mixed ⟨[0, 1, 2, 6, 7, 9, 10, 11, 15, 16, 17, 18, 50, 54], [1000, 1001, 1002, 7, 24, 10024, 29, 30, 10, 75, 10075, 82, 83, 88, 89], [(7, [7]), (10, [10]), (44, [7]), (45, [7])], [(14, [75]), (15, [7])], [1000]⟩ [] [] [.keep 1000, .cell 1000 0 2001, .slot 6 2000] Tryz.func39 rfl rfl rfl (by kernel_rfl) (by simp [lentW]) ?_
  cases ls <;> cases ss
  all_goals
    simp only [Option.getD_none, Option.getD_some] at hl hs ⊢
    simp [lentW, selsC, listC, listR, selsR, treeCs]
  case none.none =>
    refine wF_loop [.slot 2 1002 63, .cell 1000 0 1001 22, .slot 7 7 3] [.keep 1000, .cell 1000 0 1001, .slot 2 1002, .slot 7 7] [0, 1, 2, 7, 15, 16, 17]
      (fun x : Nat × List PartD × List (List PartD) × List Int => St.asc [(0, .ref 1000 0), (1, treeA t), (2, .rw 1002 0 x.2.1.length), (7, .rw 7 0 x.2.2.2.length), (15, .sl (t.kids.map fun t => [treeA t])), (16, iA t.kids.length), (17, iA x.1)]
        [(1000, .box 104 [.rw 1001 0 x.2.2.1.length]), (1001, .row 22 (x.2.2.1.map fun y => [partsA y])), (1002, .row 63 (x.2.1.map partCs)), (7, .row 3 (x.2.2.2.map fun n => [iA n]))] [(1000, true), (1001, true), (1002, true), (7, true)] false)
      (fun x => x.1 ≤ t.kids.length ∧ x.2 = (t.kids.take x.1).foldl stepK ([], [], [])) (fun x => t.kids.length - x.1) (0, [], [], []) _ (by simp) (by simp) (by simp) ?_
    rintro ⟨i, l, s, a⟩ ⟨hi, hr⟩
    dsimp only at hi hr ⊢
    by_cases h : i < t.kids.length
    · have hx : t.kids[i]? = some t.kids[i] := List.getElem?_eq_getElem h
      have h1 : IntKind.i64.wrap ((i : Int) + 1) = (i : Int) + 1 := wrap64 (by omega) (by omega)
      have htk : t.kids.take (i + 1) = t.kids.take i ++ [t.kids[i]] := by rw [List.take_add_one, hx]; rfl
      have hct := cntKs_take t.kids i h
      have hfl := foldK_len (t.kids.take i) [] [] []
      rw [← hr] at hfl
      dsimp only at hfl
      have hu := write_len t.kids[i] l s
      have hat := foldK_at (t.kids.take i) ([], [], [])
      rw [← hr, List.length_take] at hat
      simp only [List.length_nil] at hat
      have hC := IH t.kids[i] (by omega) (some l) (some s) (by simp at hfl ⊢; omega) (by simp at hfl ⊢; omega)
      have hr' : (t.kids.take (i + 1)).foldl stepK ([], [], []) = stepK (l, s, a) t.kids[i] := by rw [htk, List.foldl_append, ← hr]; rfl
      obtain ⟨u, eu⟩ : ∃ u, u = t.kids[i] := ⟨_, rfl⟩
      simp only [Option.getD_some] at hC
      rw [← eu] at hC hx hr' hu hct
      obtain ⟨q, hq⟩ : ∃ q, q = writeT u l s := ⟨_, rfl⟩
      rw [← hq] at hC hu
      clear IH htk eu
      have h2 : IntKind.i64.wrap ((q.1.length : Int) - 1) = (q.1.length : Int) - 1 := wrap64 (by omega) (by omega)
      simp [hx, h, -getElem?_pos]
      refine callH_of [(1000, 1000), (1001, 1001), (1002, 1002)] [(2000, 24), (2001, 10024)] hC (by simp [listC]) (by simp [lentW, selsC, selsR, listR]) (by simp [lentW, selsC, listC, selsR, listR, doneW]) ?_
      simp [lentW, selsC, selsR, listR, doneW, h1, h2]
      have hal : List.take a.length (List.map (fun n => [iA n]) a) = List.map (fun n => [iA n]) a := List.take_of_length_le (by simp)
      refine ⟨⟨by omega, by omega⟩, i + 1, q.1, q.2, a ++ [(q.1.length : Int) - 1], ?_, ⟨by omega, ?_⟩, by omega⟩
      · simp [hal]
      · rw [hr', hq]; rfl
    · obtain rfl : i = t.kids.length := by omega
      rw [List.take_length] at hr
      have hfl := foldK_len t.kids [] [] []
      rw [← hr] at hfl
      simp only [List.length_nil] at hfl
      have hat := foldK_at t.kids ([], [], [])
      rw [← hr] at hat
      simp only [List.length_nil] at hat
      have hal : List.take a.length (List.map (fun n => [iA n]) a) = List.map (fun n => [iA n]) a := List.take_of_length_le (by simp)
      have hll : List.take l.length (List.map partCs l) = List.map partCs l := List.take_of_length_le (by simp)
      rcases hsel : t.sel with _ | v
      · have hw : writeT t [] [] = (l ++ [⟨t.kind, t.neg, t.lt, a⟩], s) := by rw [writeT_eq, hsel, ← hr]
        rw [hw]
        simp [hsel, treeCs, strsA, intsA, selA_none]
        refine ⟨⟨by omega, by omega⟩, ?_⟩
        simp [doneW, listR, selsR, partCs, intsA, strsA, hal, hll]
      · have hw : writeT t [] [] = (l ++ [⟨t.kind, t.neg, t.lt.at_ s.length, a⟩], (writeT v [] s).2 ++ [(writeT v [] s).1]) := by rw [writeT_eq, hsel, ← hr]
        have hsl : List.take s.length (List.map (fun y => [partsA y]) s) = List.map (fun y => [partsA y]) s := List.take_of_length_le (by simp)
        have hv := cnt_one v
        have hcv : cntT t = 1 + cntKs t.kids + cntT v := by rw [hcnt, hsel]
        have hV := IH v (sel_lt hsel) none (some s) (by simp; omega) (by simp; omega)
        have hlv := write_len v [] s
        simp only [List.length_nil] at hlv
        simp only [Option.getD_some, Option.getD_none] at hV
        obtain ⟨q, hq⟩ : ∃ q, q = writeT v [] s := ⟨_, rfl⟩
        rw [← hq] at hV hw hlv
        clear IH
        simp [hsel, treeCs, strsA, intsA, selA_some]
        refine ⟨fun h7 => ?_, fun h7 => ?_⟩
        all_goals
          refine callH_of [(1000, 1000), (1001, 1001)] [(2000, 75), (2001, 10075)] hV (by simp [listC]) (by simp [lentW, selsC, selsR, listR]) (by simp [lentW, selsC, listC, selsR, listR, doneW]) ?_
          simp [lentW, selsC, selsR, listR, doneW]
          have hql : List.take q.2.length (List.map (fun y => [partsA y]) q.2) = List.map (fun y => [partsA y]) q.2 := List.take_of_length_le (by simp)
          have hqf : List.take q.1.length (List.map partCs q.1) = List.map partCs q.1 := List.take_of_length_le (by simp)
          rw [hw]
          refine ⟨⟨by omega, by omega⟩, ⟨by omega, by omega⟩, ?_⟩
          simp only [hql, hqf, hal, hll]
          simp [partsA, partCs, LitD.at_, h7, intsA, strsA]
  case none.some s0 =>
    refine wF_loop [.slot 2 1002 63, .cell 1000 0 1001 22, .slot 7 7 3] [.keep 1000, .cell 1000 0 1001, .slot 2 1002, .slot 7 7] [0, 1, 2, 7, 15, 16, 17]
      (fun x : Nat × List PartD × List (List PartD) × List Int => St.asc [(0, .ref 1000 0), (1, treeA t), (2, .rw 1002 0 x.2.1.length), (7, .rw 7 0 x.2.2.2.length), (15, .sl (t.kids.map fun t => [treeA t])), (16, iA t.kids.length), (17, iA x.1)]
        [(1000, .box 104 [.rw 1001 0 x.2.2.1.length]), (1001, .row 22 (x.2.2.1.map fun y => [partsA y])), (1002, .row 63 (x.2.1.map partCs)), (7, .row 3 (x.2.2.2.map fun n => [iA n]))] [(1000, true), (1001, true), (1002, true), (7, true)] false)
      (fun x => x.1 ≤ t.kids.length ∧ x.2 = (t.kids.take x.1).foldl stepK ([], s0, [])) (fun x => t.kids.length - x.1) (0, [], s0, []) _ (by simp) (by simp) (by simp) ?_
    rintro ⟨i, l, s, a⟩ ⟨hi, hr⟩
    dsimp only at hi hr ⊢
    by_cases h : i < t.kids.length
    · have hx : t.kids[i]? = some t.kids[i] := List.getElem?_eq_getElem h
      have h1 : IntKind.i64.wrap ((i : Int) + 1) = (i : Int) + 1 := wrap64 (by omega) (by omega)
      have htk : t.kids.take (i + 1) = t.kids.take i ++ [t.kids[i]] := by rw [List.take_add_one, hx]; rfl
      have hct := cntKs_take t.kids i h
      have hfl := foldK_len (t.kids.take i) [] s0 []
      rw [← hr] at hfl
      dsimp only at hfl
      have hu := write_len t.kids[i] l s
      have hat := foldK_at (t.kids.take i) ([], s0, [])
      rw [← hr, List.length_take] at hat
      simp only [List.length_nil] at hat
      have hC := IH t.kids[i] (by omega) (some l) (some s) (by simp at hfl ⊢; omega) (by simp at hfl ⊢; omega)
      have hr' : (t.kids.take (i + 1)).foldl stepK ([], s0, []) = stepK (l, s, a) t.kids[i] := by rw [htk, List.foldl_append, ← hr]; rfl
      obtain ⟨u, eu⟩ : ∃ u, u = t.kids[i] := ⟨_, rfl⟩
      simp only [Option.getD_some] at hC
      rw [← eu] at hC hx hr' hu hct
      obtain ⟨q, hq⟩ : ∃ q, q = writeT u l s := ⟨_, rfl⟩
      rw [← hq] at hC hu
      clear IH htk eu
      have h2 : IntKind.i64.wrap ((q.1.length : Int) - 1) = (q.1.length : Int) - 1 := wrap64 (by omega) (by omega)
      simp [hx, h, -getElem?_pos]
      refine callH_of [(1000, 1000), (1001, 1001), (1002, 1002)] [(2000, 24), (2001, 10024)] hC (by simp [listC]) (by simp [lentW, selsC, selsR, listR]) (by simp [lentW, selsC, listC, selsR, listR, doneW]) ?_
      simp [lentW, selsC, selsR, listR, doneW, h1, h2]
      have hal : List.take a.length (List.map (fun n => [iA n]) a) = List.map (fun n => [iA n]) a := List.take_of_length_le (by simp)
      refine ⟨⟨by omega, by omega⟩, i + 1, q.1, q.2, a ++ [(q.1.length : Int) - 1], ?_, ⟨by omega, ?_⟩, by omega⟩
      · simp [hal]
      · rw [hr', hq]; rfl
    · obtain rfl : i = t.kids.length := by omega
      rw [List.take_length] at hr
      have hfl := foldK_len t.kids [] s0 []
      rw [← hr] at hfl
      simp only [List.length_nil] at hfl
      have hat := foldK_at t.kids ([], s0, [])
      rw [← hr] at hat
      simp only [List.length_nil] at hat
      have hal : List.take a.length (List.map (fun n => [iA n]) a) = List.map (fun n => [iA n]) a := List.take_of_length_le (by simp)
      have hll : List.take l.length (List.map partCs l) = List.map partCs l := List.take_of_length_le (by simp)
      rcases hsel : t.sel with _ | v
      · have hw : writeT t [] s0 = (l ++ [⟨t.kind, t.neg, t.lt, a⟩], s) := by rw [writeT_eq, hsel, ← hr]
        rw [hw]
        simp [hsel, treeCs, strsA, intsA, selA_none]
        refine ⟨⟨by omega, by omega⟩, ?_⟩
        simp [doneW, listR, selsR, partCs, intsA, strsA, hal, hll]
      · have hw : writeT t [] s0 = (l ++ [⟨t.kind, t.neg, t.lt.at_ s.length, a⟩], (writeT v [] s).2 ++ [(writeT v [] s).1]) := by rw [writeT_eq, hsel, ← hr]
        have hsl : List.take s.length (List.map (fun y => [partsA y]) s) = List.map (fun y => [partsA y]) s := List.take_of_length_le (by simp)
        have hv := cnt_one v
        have hcv : cntT t = 1 + cntKs t.kids + cntT v := by rw [hcnt, hsel]
        have hV := IH v (sel_lt hsel) none (some s) (by simp; omega) (by simp; omega)
        have hlv := write_len v [] s
        simp only [List.length_nil] at hlv
        simp only [Option.getD_some, Option.getD_none] at hV
        obtain ⟨q, hq⟩ : ∃ q, q = writeT v [] s := ⟨_, rfl⟩
        rw [← hq] at hV hw hlv
        clear IH
        simp [hsel, treeCs, strsA, intsA, selA_some]
        refine ⟨fun h7 => ?_, fun h7 => ?_⟩
        all_goals
          refine callH_of [(1000, 1000), (1001, 1001)] [(2000, 75), (2001, 10075)] hV (by simp [listC]) (by simp [lentW, selsC, selsR, listR]) (by simp [lentW, selsC, listC, selsR, listR, doneW]) ?_
          simp [lentW, selsC, selsR, listR, doneW]
          have hql : List.take q.2.length (List.map (fun y => [partsA y]) q.2) = List.map (fun y => [partsA y]) q.2 := List.take_of_length_le (by simp)
          have hqf : List.take q.1.length (List.map partCs q.1) = List.map partCs q.1 := List.take_of_length_le (by simp)
          rw [hw]
          refine ⟨⟨by omega, by omega⟩, ⟨by omega, by omega⟩, ?_⟩
          simp only [hql, hqf, hal, hll]
          simp [partsA, partCs, LitD.at_, h7, intsA, strsA]
  case some.none l0 =>
    refine wF_loop [.slot 2 1002 63, .cell 1000 0 1001 22, .slot 7 7 3] [.keep 1000, .cell 1000 0 1001, .slot 2 1002, .slot 7 7] [0, 1, 2, 7, 15, 16, 17]
      (fun x : Nat × List PartD × List (List PartD) × List Int => St.asc [(0, .ref 1000 0), (1, treeA t), (2, .rw 1002 0 x.2.1.length), (7, .rw 7 0 x.2.2.2.length), (15, .sl (t.kids.map fun t => [treeA t])), (16, iA t.kids.length), (17, iA x.1)]
        [(1000, .box 104 [.rw 1001 0 x.2.2.1.length]), (1001, .row 22 (x.2.2.1.map fun y => [partsA y])), (1002, .row 63 (x.2.1.map partCs)), (7, .row 3 (x.2.2.2.map fun n => [iA n]))] [(1000, true), (1001, true), (1002, true), (7, true)] false)
      (fun x => x.1 ≤ t.kids.length ∧ x.2 = (t.kids.take x.1).foldl stepK (l0, [], [])) (fun x => t.kids.length - x.1) (0, l0, [], []) _ (by simp) (by simp) (by simp) ?_
    rintro ⟨i, l, s, a⟩ ⟨hi, hr⟩
    dsimp only at hi hr ⊢
    by_cases h : i < t.kids.length
    · have hx : t.kids[i]? = some t.kids[i] := List.getElem?_eq_getElem h
      have h1 : IntKind.i64.wrap ((i : Int) + 1) = (i : Int) + 1 := wrap64 (by omega) (by omega)
      have htk : t.kids.take (i + 1) = t.kids.take i ++ [t.kids[i]] := by rw [List.take_add_one, hx]; rfl
      have hct := cntKs_take t.kids i h
      have hfl := foldK_len (t.kids.take i) l0 [] []
      rw [← hr] at hfl
      dsimp only at hfl
      have hu := write_len t.kids[i] l s
      have hat := foldK_at (t.kids.take i) (l0, [], [])
      rw [← hr, List.length_take] at hat
      simp only [List.length_nil] at hat
      have hC := IH t.kids[i] (by omega) (some l) (some s) (by simp at hfl ⊢; omega) (by simp at hfl ⊢; omega)
      have hr' : (t.kids.take (i + 1)).foldl stepK (l0, [], []) = stepK (l, s, a) t.kids[i] := by rw [htk, List.foldl_append, ← hr]; rfl
      obtain ⟨u, eu⟩ : ∃ u, u = t.kids[i] := ⟨_, rfl⟩
      simp only [Option.getD_some] at hC
      rw [← eu] at hC hx hr' hu hct
      obtain ⟨q, hq⟩ : ∃ q, q = writeT u l s := ⟨_, rfl⟩
      rw [← hq] at hC hu
      clear IH htk eu
      have h2 : IntKind.i64.wrap ((q.1.length : Int) - 1) = (q.1.length : Int) - 1 := wrap64 (by omega) (by omega)
      simp [hx, h, -getElem?_pos]
      refine callH_of [(1000, 1000), (1001, 1001), (1002, 1002)] [(2000, 24), (2001, 10024)] hC (by simp [listC]) (by simp [lentW, selsC, selsR, listR]) (by simp [lentW, selsC, listC, selsR, listR, doneW]) ?_
      simp [lentW, selsC, selsR, listR, doneW, h1, h2]
      have hal : List.take a.length (List.map (fun n => [iA n]) a) = List.map (fun n => [iA n]) a := List.take_of_length_le (by simp)
      refine ⟨⟨by omega, by omega⟩, i + 1, q.1, q.2, a ++ [(q.1.length : Int) - 1], ?_, ⟨by omega, ?_⟩, by omega⟩
      · simp [hal]
      · rw [hr', hq]; rfl
    · obtain rfl : i = t.kids.length := by omega
      rw [List.take_length] at hr
      have hfl := foldK_len t.kids l0 [] []
      rw [← hr] at hfl
      simp only [List.length_nil] at hfl
      have hat := foldK_at t.kids (l0, [], [])
      rw [← hr] at hat
      simp only [List.length_nil] at hat
      have hal : List.take a.length (List.map (fun n => [iA n]) a) = List.map (fun n => [iA n]) a := List.take_of_length_le (by simp)
      have hll : List.take l.length (List.map partCs l) = List.map partCs l := List.take_of_length_le (by simp)
      rcases hsel : t.sel with _ | v
      · have hw : writeT t l0 [] = (l ++ [⟨t.kind, t.neg, t.lt, a⟩], s) := by rw [writeT_eq, hsel, ← hr]
        rw [hw]
        simp [hsel, treeCs, strsA, intsA, selA_none]
        refine ⟨⟨by omega, by omega⟩, ?_⟩
        simp [doneW, listR, selsR, partCs, intsA, strsA, hal, hll]
      · have hw : writeT t l0 [] = (l ++ [⟨t.kind, t.neg, t.lt.at_ s.length, a⟩], (writeT v [] s).2 ++ [(writeT v [] s).1]) := by rw [writeT_eq, hsel, ← hr]
        have hsl : List.take s.length (List.map (fun y => [partsA y]) s) = List.map (fun y => [partsA y]) s := List.take_of_length_le (by simp)
        have hv := cnt_one v
        have hcv : cntT t = 1 + cntKs t.kids + cntT v := by rw [hcnt, hsel]
        have hV := IH v (sel_lt hsel) none (some s) (by simp; omega) (by simp; omega)
        have hlv := write_len v [] s
        simp only [List.length_nil] at hlv
        simp only [Option.getD_some, Option.getD_none] at hV
        obtain ⟨q, hq⟩ : ∃ q, q = writeT v [] s := ⟨_, rfl⟩
        rw [← hq] at hV hw hlv
        clear IH
        simp [hsel, treeCs, strsA, intsA, selA_some]
        refine ⟨fun h7 => ?_, fun h7 => ?_⟩
        all_goals
          refine callH_of [(1000, 1000), (1001, 1001)] [(2000, 75), (2001, 10075)] hV (by simp [listC]) (by simp [lentW, selsC, selsR, listR]) (by simp [lentW, selsC, listC, selsR, listR, doneW]) ?_
          simp [lentW, selsC, selsR, listR, doneW]
          have hql : List.take q.2.length (List.map (fun y => [partsA y]) q.2) = List.map (fun y => [partsA y]) q.2 := List.take_of_length_le (by simp)
          have hqf : List.take q.1.length (List.map partCs q.1) = List.map partCs q.1 := List.take_of_length_le (by simp)
          rw [hw]
          refine ⟨⟨by omega, by omega⟩, ⟨by omega, by omega⟩, ?_⟩
          simp only [hql, hqf, hal, hll]
          simp [partsA, partCs, LitD.at_, h7, intsA, strsA]
  case some.some l0 s0 =>
    refine wF_loop [.slot 2 1002 63, .cell 1000 0 1001 22, .slot 7 7 3] [.keep 1000, .cell 1000 0 1001, .slot 2 1002, .slot 7 7] [0, 1, 2, 7, 15, 16, 17]
      (fun x : Nat × List PartD × List (List PartD) × List Int => St.asc [(0, .ref 1000 0), (1, treeA t), (2, .rw 1002 0 x.2.1.length), (7, .rw 7 0 x.2.2.2.length), (15, .sl (t.kids.map fun t => [treeA t])), (16, iA t.kids.length), (17, iA x.1)]
        [(1000, .box 104 [.rw 1001 0 x.2.2.1.length]), (1001, .row 22 (x.2.2.1.map fun y => [partsA y])), (1002, .row 63 (x.2.1.map partCs)), (7, .row 3 (x.2.2.2.map fun n => [iA n]))] [(1000, true), (1001, true), (1002, true), (7, true)] false)
      (fun x => x.1 ≤ t.kids.length ∧ x.2 = (t.kids.take x.1).foldl stepK (l0, s0, [])) (fun x => t.kids.length - x.1) (0, l0, s0, []) _ (by simp) (by simp) (by simp) ?_
    rintro ⟨i, l, s, a⟩ ⟨hi, hr⟩
    dsimp only at hi hr ⊢
    by_cases h : i < t.kids.length
    · have hx : t.kids[i]? = some t.kids[i] := List.getElem?_eq_getElem h
      have h1 : IntKind.i64.wrap ((i : Int) + 1) = (i : Int) + 1 := wrap64 (by omega) (by omega)
      have htk : t.kids.take (i + 1) = t.kids.take i ++ [t.kids[i]] := by rw [List.take_add_one, hx]; rfl
      have hct := cntKs_take t.kids i h
      have hfl := foldK_len (t.kids.take i) l0 s0 []
      rw [← hr] at hfl
      dsimp only at hfl
      have hu := write_len t.kids[i] l s
      have hat := foldK_at (t.kids.take i) (l0, s0, [])
      rw [← hr, List.length_take] at hat
      simp only [List.length_nil] at hat
      have hC := IH t.kids[i] (by omega) (some l) (some s) (by simp at hfl ⊢; omega) (by simp at hfl ⊢; omega)
      have hr' : (t.kids.take (i + 1)).foldl stepK (l0, s0, []) = stepK (l, s, a) t.kids[i] := by rw [htk, List.foldl_append, ← hr]; rfl
      obtain ⟨u, eu⟩ : ∃ u, u = t.kids[i] := ⟨_, rfl⟩
      simp only [Option.getD_some] at hC
      rw [← eu] at hC hx hr' hu hct
      obtain ⟨q, hq⟩ : ∃ q, q = writeT u l s := ⟨_, rfl⟩
      rw [← hq] at hC hu
      clear IH htk eu
      have h2 : IntKind.i64.wrap ((q.1.length : Int) - 1) = (q.1.length : Int) - 1 := wrap64 (by omega) (by omega)
      simp [hx, h, -getElem?_pos]
      refine callH_of [(1000, 1000), (1001, 1001), (1002, 1002)] [(2000, 24), (2001, 10024)] hC (by simp [listC]) (by simp [lentW, selsC, selsR, listR]) (by simp [lentW, selsC, listC, selsR, listR, doneW]) ?_
      simp [lentW, selsC, selsR, listR, doneW, h1, h2]
      have hal : List.take a.length (List.map (fun n => [iA n]) a) = List.map (fun n => [iA n]) a := List.take_of_length_le (by simp)
      refine ⟨⟨by omega, by omega⟩, i + 1, q.1, q.2, a ++ [(q.1.length : Int) - 1], ?_, ⟨by omega, ?_⟩, by omega⟩
      · simp [hal]
      · rw [hr', hq]; rfl
    · obtain rfl : i = t.kids.length := by omega
      rw [List.take_length] at hr
      have hfl := foldK_len t.kids l0 s0 []
      rw [← hr] at hfl
      simp only [List.length_nil] at hfl
      have hat := foldK_at t.kids (l0, s0, [])
      rw [← hr] at hat
      simp only [List.length_nil] at hat
      have hal : List.take a.length (List.map (fun n => [iA n]) a) = List.map (fun n => [iA n]) a := List.take_of_length_le (by simp)
      have hll : List.take l.length (List.map partCs l) = List.map partCs l := List.take_of_length_le (by simp)
      rcases hsel : t.sel with _ | v
      · have hw : writeT t l0 s0 = (l ++ [⟨t.kind, t.neg, t.lt, a⟩], s) := by rw [writeT_eq, hsel, ← hr]
        rw [hw]
        simp [hsel, treeCs, strsA, intsA, selA_none]
        refine ⟨⟨by omega, by omega⟩, ?_⟩
        simp [doneW, listR, selsR, partCs, intsA, strsA, hal, hll]
      · have hw : writeT t l0 s0 = (l ++ [⟨t.kind, t.neg, t.lt.at_ s.length, a⟩], (writeT v [] s).2 ++ [(writeT v [] s).1]) := by rw [writeT_eq, hsel, ← hr]
        have hsl : List.take s.length (List.map (fun y => [partsA y]) s) = List.map (fun y => [partsA y]) s := List.take_of_length_le (by simp)
        have hv := cnt_one v
        have hcv : cntT t = 1 + cntKs t.kids + cntT v := by rw [hcnt, hsel]
        have hV := IH v (sel_lt hsel) none (some s) (by simp; omega) (by simp; omega)
        have hlv := write_len v [] s
        simp only [List.length_nil] at hlv
        simp only [Option.getD_some, Option.getD_none] at hV
        obtain ⟨q, hq⟩ : ∃ q, q = writeT v [] s := ⟨_, rfl⟩
        rw [← hq] at hV hw hlv
        clear IH
        simp [hsel, treeCs, strsA, intsA, selA_some]
        refine ⟨fun h7 => ?_, fun h7 => ?_⟩
        all_goals
          refine callH_of [(1000, 1000), (1001, 1001)] [(2000, 75), (2001, 10075)] hV (by simp [listC]) (by simp [lentW, selsC, selsR, listR]) (by simp [lentW, selsC, listC, selsR, listR, doneW]) ?_
          simp [lentW, selsC, selsR, listR, doneW]
          have hql : List.take q.2.length (List.map (fun y => [partsA y]) q.2) = List.map (fun y => [partsA y]) q.2 := List.take_of_length_le (by simp)
          have hqf : List.take q.1.length (List.map partCs q.1) = List.map partCs q.1 := List.take_of_length_le (by simp)
          rw [hw]
          refine ⟨⟨by omega, by omega⟩, ⟨by omega, by omega⟩, ?_⟩
          simp only [hql, hqf, hal, hll]
          simp [partsA, partCs, LitD.at_, h7, intsA, strsA]
theorem write_all (t : Tr) : WriteC t := by
  generalize hn : cntT t = n
  induction n using Nat.strongRecOn generalizing t with
  | ind n ih => exact write_aux t fun u hu => ih (cntT u) (by omega) u rfl
end Go.Proofs.YtldnkeackphilaaGreatDoor.X
namespace Go.Proofs.YtldnkeackphilaaGreatDoor.X
open Go.RowKit

set_option maxRecDepth 8000
set_option maxHeartbeats 1000000 in
theorem plan_ok (ps : List Part) (scope : Int) (hsc : R64 scope) (hb : PB ps) (hv : validF ps = none) (ts : List (Int × Int)) (hts : checkF ps scope = .inr ts) (T : Tr) (hT : Has Tryz.prog 38 [mkA ps, iA ((ps.length : Int) - 1), iA 0] (treeA T) noTok) (hcnt : cntT T ≤ 100000) (q : List PartD × List (List PartD)) (hq : q = writeT T [] []) :
    Has Tryz.prog 13 [.agg [psA ps], iA scope] (.tup [.agg [partsA q.1, selsA q.2], iA 0]) noTok := by
  have hW := write_all T none none (by simpa using hcnt) (by simpa using hcnt)
  simp only [Option.getD_none] at hW
  rw [← hq] at hW
  have hl : List.take q.1.length (List.map partCs q.1) = List.map partCs q.1 := List.take_of_length_le (by simp)
  have hs : List.take q.2.length (List.map (fun y => [partsA y]) q.2) = List.map (fun y => [partsA y]) q.2 := List.take_of_length_le (by simp)
  have hlen := hb.len
  have hw : IntKind.i64.wrap ((ps.length : Int) - 1) = (ps.length : Int) - 1 := wrap64 (by omega) (by omega)
  refine fnX mixed ⟨[0, 1, 2, 4, 5, 6, 8, 9, 10, 11, 12, 16, 27], [2, 4, 34, 42, 45, 10045], [], [(11, [45, 10045])], []⟩ Tryz.func13 rfl rfl rfl (by kernel_rfl) rfl ?_
  simp [psA]
  refine callP_of (valid_ok ps hb hv) (by simp) (by simp) ?_
  simp
  refine callP_of (check_ok ps scope hsc hb ts hts) (by simp) (by simp) ?_
  simp [hw]
  refine callP_of hT (by simp) (by simp) ?_
  simp
  refine callH_of [(1000, 42)] [(2000, 45), (2001, 10045)] hW (by simp [listC]) (by simp [lentW, selsC, selsR, listR]) (by simp [lentW, selsC, listC, selsR, listR, doneW]) ?_
  simp [lentW, selsC, selsR, listR, doneW]
  simp only [hl, hs]
  simp [partsA, selsA]
end Go.Proofs.YtldnkeackphilaaGreatDoor.X
namespace Go.Proofs.YtldnkeackphilaaGreatDoor.X
open Go.RowKit Go.Sort

section
variable {α : Type} {f : α → Value} {P : Program} {G : Gh} {ν : Nu} {w w' : World} {n : Nat} {E : TypeId} {v : Value}
theorem own_of_row {es : List α} (hsz : szP P E = 1) (hB : BlkR P G ν w n (.row E (es.map fun x => [.imm (f x)]))) (hv : RN G ν v (.rw n 0 es.length)) : OwnF f E w 0 v es ∧ v.ownBlock = blkOf ν n := by
  obtain ⟨-, hB⟩ := hB
  rcases hB with ⟨cap, h1, h2⟩ | ⟨g, cap, h1, -, h3, h4, vs, h5, h6, h7⟩
  · have h0 : es = [] := by simpa using h2
    subst h0
    rcases hv.rwI with ⟨cap', sz, q1, rfl, -, -⟩ | ⟨g, cap', sz, o, q1, -, -, -⟩
    · exact ⟨⟨rfl, .inl ⟨rfl, rfl⟩⟩, by simp [Value.ownBlock, blkOf, h1]⟩
    · rw [h1] at q1; cases q1
  · rcases hv.rwI with ⟨cap', sz, q1, -, -, -⟩ | ⟨g', cap', sz, o, q1, rfl, q3, q4⟩
    · rw [h1] at q1; cases q1
    · rw [h1] at q1
      cases q1
      obtain rfl : o = 0 := by simpa using q4 (.inr rfl)
      rw [hsz, Nat.mul_one] at h6
      have hl : es.length ≤ cap := by simpa using h3
      refine ⟨⟨by simp, .inr ⟨g, cap, vs, by simp, Nat.zero_le _, h5, hl, h4, by simpa using h6, ?_⟩⟩, by simp [Value.ownBlock, blkOf, h1]⟩
      rw [Nat.mul_one]
      refine List.ext_getElem? fun j => ?_
      by_cases hj : j < es.length
      · rw [List.getElem?_take_of_lt hj, Array.getElem?_toList, List.getElem?_map, List.getElem?_eq_getElem hj]
        have hv : vs[j]? = some vs[j] := Array.getElem?_eq_getElem (by omega)
        have hf : (es.map fun x => [AV.imm (f x)]).flatten[j]? = some (.imm (f es[j])) := by
          have := flat_get (sz := 1) (es := es.map fun x => [AV.imm (f x)]) (i := j) (j := 0) (e := [AV.imm (f es[j])]) (a := .imm (f es[j])) (by simp) (by simp [hj]) rfl
          simpa using this
        obtain ⟨-, hr⟩ := h7 j _ _ hv hf
        rw [hv]
        exact congrArg some (RN.immI (ν := ν) (.sh hr)).1
      · rw [List.getElem?_take_eq_none (by omega), List.getElem?_eq_none (by simp; omega)]
theorem row_of_own {es : List α} (hsz : szP P E = 1) (h1c : ∀ x, (f x).oneCell' = true) {g : Nat} (hG : ∀ i a, ¬ G g i a) {cap : Nat} (hn : ν n = some ⟨some g, cap, 1⟩) (h : OwnF f E w' 0 (.slice (some ⟨g, 0, none⟩) es.length cap) es) :
    BlkR P G ν w' n (.row E (es.map fun x => [.imm (f x)])) ∧ RN G ν (.slice (some ⟨g, 0, none⟩) es.length cap) (.rw n 0 es.length) := by
  rcases h.2 with ⟨h', -⟩ | ⟨g', cap', cur, h', -, hh, k1, k2, k3, k4⟩
  · cases h'
  · cases h'
    refine ⟨⟨by simp [hsz], .inr ⟨g, cap, by rw [hsz]; exact hn, hG, by simpa using k1, k2, cur, hh, by rw [hsz]; exact k3, fun j v a hv ha => ?_⟩⟩, .rw n 0 es.length g cap 1 0 hn (by omega) (fun _ => rfl)⟩
    obtain ⟨i, e, j', q1, q2, rfl⟩ := flat_inv (sz := 1) (by simp) ha
    rw [List.getElem?_map] at q1
    obtain ⟨x, q3, rfl⟩ := Option.map_eq_some_iff.1 q1
    have hil : i < es.length := (List.getElem?_eq_some_iff.1 q3).1
    obtain rfl : j' = 0 := by
      have := (List.getElem?_eq_some_iff.1 q2).1
      simpa using this
    cases q2
    rw [Nat.mul_one, Nat.add_zero] at hv
    have := congrArg (fun l : List Value => l[i]?) k4
    simp only [Nat.mul_one, List.getElem?_take_of_lt hil, Array.getElem?_toList, hv, List.getElem?_map, q3, Option.map_some, Option.some.injEq] at this
    subst this
    exact ⟨h1c x, .imm _ (h1c x)⟩
theorem hs_row {fn : Func} {c : Code} {fid : FuncId} {es es' : List α} (hf : P.funcs[fid]? = some fn) (hb : fn.body = some c) (hnm : (fn.name == "runtime.NumGoroutine") = false) (hsz : szP P E = 1) (h1c : ∀ x, (f x).oneCell' = true) (hlen : es'.length ≤ es.length)
    (res : AV) (hres : res = .tup [] ∧ es'.length = es.length ∨ res = .rw 1000 0 es'.length)
    (h : ∀ w v, OwnF f E w 0 v es → Calls P fid #[v] w fun e w' => ∃ v', e = .returned (if res.whole = false then .tuple #[] else v') ∧ OwnF f E w' 0 v' es' ∧ w.grownBy w' v.ownBlock ∧ (v = .slice none 0 0 → v' = .slice none 0 0) ∧ ∀ A k cap, v = .slice (some A) k cap → v' = .slice (some A) es'.length cap) :
    Hs P fid [.rw 1000 0 es.length] [(1000, .row E (es.map fun x => [.imm (f x)]))] res [1000] [(1000, .row E (es'.map fun x => [.imm (f x)]))] := by
  refine ⟨fun vals w => enters_of hf hb hnm vals w, fun G ν w vals hc hB hinj hno hl hv => ?_⟩
  obtain ⟨l⟩ := vals
  match l, hl with
  | [v], _ =>
    have hB := hB _ (List.mem_singleton.2 rfl)
    have hr := hv 0 v _ rfl rfl
    obtain ⟨h1, h2⟩ := own_of_row hsz hB hr
    refine (h w v h1).mono ?_
    rintro e w' ⟨v', rfl, k1, k2, k3, k4⟩
    have hcells : CellsR G w' := by
      refine cells_old hc fun g ⟨i, a, hg⟩ => ?_
      refine k2.block g (ghost_lt hc hg) ?_
      intro e
      obtain ⟨-, hB⟩ := hB
      rcases hB with ⟨cap, b1, -⟩ | ⟨g', cap, b1, b2, -⟩
      · rw [h2] at e; simp [blkOf, b1] at e
      · rw [h2] at e
        simp [blkOf, b1] at e
        subst e
        exact b2 i a hg
    have hrow : BlkR P G ν w' 1000 (.row E (es'.map fun x => [.imm (f x)])) ∧ RN G ν v' (.rw 1000 0 es'.length) := by
      obtain ⟨b0, hB⟩ := hB
      rcases hr.rwI with ⟨cap, sz, q1, rfl, -, q2⟩ | ⟨g, cap, sz, o, q1, rfl, q3, q4⟩
      · have e0 : es' = [] := List.eq_nil_of_length_eq_zero (by omega)
        subst e0
        rw [k3 rfl]
        rcases hB with ⟨cap', b1, -⟩ | ⟨g', cap', b1, -⟩
        · exact ⟨⟨by simp, .inl ⟨cap', b1, rfl⟩⟩, .rw0 _ _ _ b1⟩
        · rw [b1] at q1; cases q1
      · rcases hB with ⟨cap', b1, -⟩ | ⟨g', cap', b1, b2, -⟩
        · rw [b1] at q1; cases q1
        · rw [b1] at q1
          cases q1
          rw [hsz] at b1
          obtain rfl : o = 0 := by simpa using q4 (.inr rfl)
          rw [k4 _ _ _ rfl] at k1 ⊢
          exact row_of_own hsz h1c b2 b1 k1
    refine ⟨_, G, ν, rfl, hcells, ?_, fun p hp => (List.mem_singleton.1 hp) ▸ hrow.1, fun p hp q hq g _ _ => by rw [List.mem_singleton.1 hp, List.mem_singleton.1 hq], fun n _ => rfl, fun p hp g hg => .inr ⟨_, List.mem_singleton.2 rfl, by rw [List.mem_singleton.1 hp] at hg; exact hg⟩, ⟨k2.os, k2.tape, k2.output, k2.size, .refl _, fun g hg hF => ⟨k2.block g hg fun e => hF ⟨_, List.mem_singleton.2 rfl, by rw [← h2]; exact e.symm⟩, rfl⟩⟩⟩
    rcases hres with ⟨rfl, -⟩ | rfl
    · exact .sh (.tup _ _ rfl fun j v a h => by simp at h)
    · exact hrow.2
end
theorem len_one (E : TypeId) (h : (Tryz.prog.info? E).map (·.size) = some 1) : szP Tryz.prog E = 1 := by simp [szP, h]
theorem sortI_h (es : List Int) (hl : es.length < 4611686018427387904) : Hs Tryz.prog 105 [.rw 1000 0 es.length] [(1000, .row 3 (es.map fun x => [iA x]))] (.tup []) [1000] [(1000, .row 3 ((sortedI es).map fun x => [iA x]))] := by
  have hlen : (sortedI es).length = es.length := by simp [sortedI]
  refine hs_row (f := fun x => .int .i64 x) Tryz.func105 rfl rfl (len_one _ (by kernel_rfl)) (fun _ => rfl) (Nat.le_of_eq hlen) _ (.inl ⟨rfl, hlen⟩) fun w v h => (sortI_c w 0 v es h hl).mono ?_
  rintro e w' ⟨rfl, h1, h2⟩
  exact ⟨v, rfl, h1, h2, id, fun A k cap e => by
    subst e
    rcases h.2 with ⟨e, -⟩ | ⟨g, c, cur, e, -⟩ <;> cases e
    rw [hlen]⟩
theorem compactI_h (es : List Int) : Hs Tryz.prog 107 [.rw 1000 0 es.length] [(1000, .row 3 (es.map fun x => [iA x]))] (.rw 1000 0 (Lib.compact es).length) [1000] [(1000, .row 3 ((Lib.compact es).map fun x => [iA x]))] := by
  refine hs_row (f := fun x => .int .i64 x) Tryz.func107 rfl rfl (len_one _ (by kernel_rfl)) (fun _ => rfl) (compact_le es) _ (.inr rfl) fun w v h => ?_
  rcases own_cases h with ⟨rfl, rfl⟩ | ⟨g, cap, rfl, hg, h1, h2⟩
  · refine (Tryz.slices_Compact_int_empty none 0 w).mono ?_
    rintro e w' ⟨rfl, rfl⟩
    exact ⟨_, rfl, h, World.grownBy.refl _ _, id, fun A k cap e => by cases e⟩
  · have hle : (Lib.compact es).length ≤ es.length := compact_le es
    refine (Tryz.slices_Compact_int g 0 cap es w (own_holds h) (by omega) h1).mono ?_
    rintro e w' ⟨rfl, q, rfl⟩
    have hh := own_put (q := q) (os := #[]) (d := Lib.compact es ++ List.replicate (es.length - (Lib.compact es).length) 0) h (by simp; omega) (Lib.compact es).length (by simp)
    rw [grow_none, List.take_left] at hh
    exact ⟨_, rfl, hh.1, hh.2, fun e => by (cases e), fun A k cap e => by (cases e; rfl)⟩
theorem sortS_h (es : List ByteArray) (hl : es.length < 4611686018427387904) : Hs Tryz.prog 106 [.rw 1000 0 es.length] [(1000, .row 9 (es.map fun x => [sA x]))] (.tup []) [1000] [(1000, .row 9 ((sortedS es).map fun x => [sA x]))] := by
  have hlen : (sortedS es).length = es.length := by simp [sortedS, textsL, bytesL]
  refine hs_row (f := fun x => .string x) Tryz.func106 rfl rfl (len_one _ (by kernel_rfl)) (fun _ => rfl) (Nat.le_of_eq hlen) _ (.inl ⟨rfl, hlen⟩) fun w v h => (sortS_c w 0 v es h hl).mono ?_
  rintro e w' ⟨rfl, h1, h2⟩
  exact ⟨v, rfl, h1, h2, id, fun A k cap e => by
    subst e
    rcases h.2 with ⟨e, -⟩ | ⟨g, c, cur, e, -⟩ <;> cases e
    rw [hlen]⟩
theorem compactS_h (es : List ByteArray) : Hs Tryz.prog 108 [.rw 1000 0 es.length] [(1000, .row 9 (es.map fun x => [sA x]))] (.rw 1000 0 (compactS es).length) [1000] [(1000, .row 9 ((compactS es).map fun x => [sA x]))] := by
  have hle : (Lib.compact (bytesL es)).length ≤ (bytesL es).length := compact_le (bytesL es)
  have hbl : (bytesL es).length = es.length := by simp [bytesL]
  have hcl : (compactS es).length = (Lib.compact (bytesL es)).length := by simp [compactS, textsL]
  refine hs_row (f := fun x => .string x) Tryz.func108 rfl rfl (len_one _ (by kernel_rfl)) (fun _ => rfl) (by omega) _ (.inr rfl) fun w v h => ?_
  have hb := own_bytes h
  rcases own_cases hb with ⟨rfl, h0⟩ | ⟨g, cap, rfl, hg, h1, h2⟩
  · obtain rfl : es = [] := by simpa [bytesL] using h0
    refine (Tryz.slices_Compact_string_empty none 0 w).mono ?_
    rintro e w' ⟨rfl, rfl⟩
    exact ⟨_, rfl, h, World.grownBy.refl _ _, id, fun A k cap e => by cases e⟩
  · refine (Tryz.slices_Compact_string g 0 cap (bytesL es) w (own_holds hb) (by omega) h1).mono ?_
    rintro e w' ⟨rfl, q, rfl⟩
    have hh := own_put (q := q) (os := #[]) (d := Lib.compact (bytesL es) ++ List.replicate ((bytesL es).length - (Lib.compact (bytesL es)).length) []) hb (by simp; omega) (Lib.compact (bytesL es)).length (by simp)
    rw [grow_none, List.take_left] at hh
    exact ⟨_, rfl, own_texts hh.1, hh.2, fun e => by (cases e), fun A k cap e => by (cases e; rw [hcl])⟩
end Go.Proofs.YtldnkeackphilaaGreatDoor.X
namespace Go.Proofs.YtldnkeackphilaaGreatDoor.X
open Go.RowKit

set_option maxRecDepth 8000
set_option maxHeartbeats 2000000 in
theorem member_keys (ps : List Part) (a b : Nat) (kind : Int) (text : ByteArray) (num : Int) (kids : List Int) (hp : ps[b]? = some ⟨kind, text, num, kids⟩) (s : Int) (x : OpdD)
    (hk : Has Tryz.prog 104 [mkA ps, iA a] (.agg (termCs (keyTermF x))) noTok) (hkd : kind = 16 ∨ kind = 17) (res : Tr)
    (hr : Hid (res = if kind = 16 then .lit { LitD.zero with kind := 4, term := keyTermF x, of_ := num } s none else .lit { LitD.zero with kind := 5, term := keyTermF x } s none)) :
    Has Tryz.prog 65 [mkA ps, iA a, iA b, iA s] (treeA res) noTok := by
  have hl : b < ps.length := (List.getElem?_eq_some_iff.1 hp).1
  have hg : ps[b] = ⟨kind, text, num, kids⟩ := by simpa [List.getElem?_eq_getElem hl] using hp
  refine fnX mixed ⟨[0, 1, 2, 3, 8, 9, 10, 11, 12, 14, 15, 16, 25, 26, 36, 55, 62, 63, 64, 65, 78, 96], [9, 10, 11, 15, 84, 91, 35, 43, 116], [(9, [9]), (11, [11]), (31, [9]), (35, [35]), (106, [11]), (107, [84]), (108, [84]), (109, [11]), (110, [91]), (111, [91]), (112, [11]), (113, [11])], [(26, [84, 91])], []⟩ Tryz.func65 rfl rfl rfl (by kernel_rfl) (by simp) ?_
  generalize keyTermF x = t at *
  obtain ⟨tk, ts, ty, tl⟩ := t
  rcases hkd with h | h <;> subst h
  · simp [psA, mkA, hg, hl, pCs, intsA]
    refine callP_of hk (by simp) (by simp [termCs]) ?_
    simp [termCs]
    refine callH_of [] [(2000, 35)] (literal_h { LitD.zero with kind := 4, term := ⟨tk, ts, ty, tl⟩, of_ := num } s) (by simp [litCs, LitD.zero, TermD.zero, noText, strsA, intsA]) (by simp) (by simp) ?_
    simp [treeCs, strsA, intsA]
    simp [hr.out, Tr.lit, tree_mk, treeCs, strsA, intsA, selA_none]
  · simp [psA, mkA, hg, hl, pCs, intsA]
    refine callP_of hk (by simp) (by simp [termCs]) ?_
    simp [termCs]
    refine callH_of [] [(2000, 43)] (literal_h { LitD.zero with kind := 5, term := ⟨tk, ts, ty, tl⟩ } s) (by simp [litCs, LitD.zero, TermD.zero, noText, strsA, intsA]) (by simp) (by simp) ?_
    simp [treeCs, strsA, intsA]
    simp [hr.out, Tr.lit, tree_mk, treeCs, strsA, intsA, selA_none]
set_option maxHeartbeats 4000000 in
theorem member_set (ps : List Part) (a b : Nat) (text : ByteArray) (num : Int) (kids : List Int) (hp : ps[b]? = some ⟨13, text, num, kids⟩) (s : Int) (x : OpdD) (o : Int → OpdD) (hlen : kids.length ≤ 1000)
    (hx : Has Tryz.prog 100 [mkA ps, iA a] (.agg x.cs) noTok) (hE : ∀ k ∈ kids, Has Tryz.prog 100 [mkA ps, iA k] (.agg (o k).cs) noTok) (res : Tr) (hr : Hid (res = memberX x (kids.map o) s)) :
    Has Tryz.prog 65 [mkA ps, iA a, iA b, iA s] (treeA res) noTok := by
  have hl : b < ps.length := (List.getElem?_eq_some_iff.1 hp).1
  have hg : ps[b] = ⟨13, text, num, kids⟩ := by simpa [List.getElem?_eq_getElem hl] using hp
  refine fnX mixed ⟨[0, 1, 2, 3, 8, 9, 10, 11, 12, 14, 15, 16, 25, 26, 36, 55, 62, 63, 64, 65, 78, 96], [9, 10, 11, 15, 83, 84, 90, 91, 35, 43, 116, 1084, 1091], [(9, [9]), (11, [11]), (31, [9]), (35, [35]), (106, [11]), (107, [1084]), (108, [1084]), (109, [11]), (110, [1091]), (111, [1091]), (112, [11]), (113, [11])], [(26, [1084, 1091])], []⟩ Tryz.func65 rfl rfl rfl (by kernel_rfl) (by simp) ?_
  simp [psA, mkA, hg, hl, pCs, intsA]
  refine callP_of hx (by simp) (by simp [OpdD.cs]) ?_
  simp [OpdD.cs]
  refine ⟨fun h0 => ?_, fun h0 h1 => ?_⟩
  · refine callP_of (truth_h false s) (by simp) (by simp) ?_
    simp [hr.out, memberX]
    rw [if_pos (by simpa using h0)]
  have hmx : res = if x.step = 0 then truthF ((kids.map o).any fun e => standsF x e 1) s else .lit { LitD.zero with kind := 1, term := x.term, texts := compactS (sortedS (textsOf (kids.map o))), nums := Lib.compact (sortedI (numsOf (kids.map o))) } s x.sel := by
    rw [hr.out, memberX, if_neg (by simp [h0, h1])]
  clear hr
  refine wF_loop [.cell 11 8 1084 3, .cell 11 7 1091 9] [.slot 10 10, .slot 11 11, .cell 11 8 1084, .cell 11 7 1091] [0, 3, 10, 11, 12, 62, 63, 64] (fun i : Nat => St.asc [(0, mkA ps), (3, iA s), (10, .ref 10 0), (11, .ref 11 0), (12, bA (((kids.take i).map o).any fun e => standsF x e 1)), (62, .sl (kids.map fun k => [iA k])), (63, iA kids.length), (64, iA i)]
    [(10, .box 210 x.cs), (11, .box 61 [iA 1, iA x.term.kind, iA x.term.side, sA x.term.key, iA x.term.sel, iA 0, iA 0, .rw 1091 0 (textsOf ((kids.take i).map o)).length, .rw 1084 0 (numsOf ((kids.take i).map o)).length, iA 0, iA 0, sA noText, iA 0, iA 0, sA noText, iA 0]), (1084, .row 3 ((numsOf ((kids.take i).map o)).map fun n => [iA n])), (1091, .row 9 ((textsOf ((kids.take i).map o)).map fun n => [sA n]))] [(10, true), (11, true), (1084, true), (1091, true)] false) (fun i => i ≤ kids.length) (fun i => kids.length - i) 0 _ (by simp) ?_ (by simp) ?_
  · simp [mkA, psA, OpdD.cs, textsOf, numsOf, noText]
  intro i hi
  by_cases h : i < kids.length
  · have hk : kids[i]? = some kids[i] := List.getElem?_eq_getElem h
    have hE1 := hE kids[i] (List.getElem_mem h)
    have htk : kids.take (i + 1) = kids.take i ++ [kids[i]] := by rw [List.take_add_one, hk]; rfl
    have hw1 : IntKind.i64.wrap ((i : Int) + 1) = (i : Int) + 1 := wrap64 (by omega) (by omega)
    obtain ⟨e, he⟩ : ∃ e, e = o kids[i] := ⟨_, rfl⟩
    obtain ⟨es, hes⟩ : ∃ es, es = (kids.take i).map o := ⟨_, rfl⟩
    have hes1 : (kids.take (i + 1)).map o = es ++ [e] := by rw [htk, List.map_append, ← hes, he]; rfl
    have hS := stands_h x e 1
    rw [← he] at hE1
    obtain ⟨k, ek⟩ : ∃ k, k = kids[i] := ⟨_, rfl⟩
    rw [← ek] at hk hE1
    have hnl : (numsOf es).length ≤ 1000 := by
      have h1 : (numsOf es).length ≤ es.length := by simp only [numsOf, List.length_map]; exact List.length_filter_le _ _
      have h2 : es.length = i := by rw [hes]; simp; omega
      omega
    have htl : (textsOf es).length ≤ 1000 := by
      have h1 : (textsOf es).length ≤ es.length := by simp only [textsOf, List.length_map]; exact List.length_filter_le _ _
      have h2 : es.length = i := by rw [hes]; simp; omega
      omega
    rw [← hes]
    obtain ⟨f, hf⟩ : ∃ f, f = es.any fun e => standsF x e 1 := ⟨_, rfl⟩
    rw [← hf]
    clear he ek
    obtain ⟨xs, xn, xt, xi, xm, xl⟩ := x
    obtain ⟨es_, en, et, ei, em, el⟩ := e
    simp only [OpdD.cs] at hE1 hS ⊢
    have hes2 : (kids.map o).take (i + 1) = es ++ [⟨es_, en, et, ei, em, el⟩] := by rw [← List.map_take]; exact hes1
    have htt : List.take (textsOf es).length ((textsOf es).map fun n => [sA n]) = (textsOf es).map fun n => [sA n] := List.take_of_length_le (by simp)
    have hnn : List.take (numsOf es).length ((numsOf es).map fun n => [iA n]) = (numsOf es).map fun n => [iA n] := List.take_of_length_le (by simp)
    cases f
    · cases en
      · simp [hk, h, mkA, psA, -getElem?_pos]
        refine callP_of hE1 (by simp) (by simp) ?_
        simp
        refine .inr (callP_of hS (by simp) (by simp) ?_)
        simp [hw1, htt]
        refine ⟨⟨by omega, by omega⟩, i + 1, ?_, by omega, by omega⟩
        simp [hes2, textsOf_snoc, numsOf_snoc, ← hf]
      · simp [hk, h, mkA, psA, -getElem?_pos]
        refine callP_of hE1 (by simp) (by simp) ?_
        simp
        refine .inr (callP_of hS (by simp) (by simp) ?_)
        simp [hw1, hnn]
        refine ⟨⟨by omega, by omega⟩, i + 1, ?_, by omega, by omega⟩
        simp [hes2, textsOf_snoc, numsOf_snoc, ← hf]
    · cases en
      · simp [hk, h, mkA, psA, -getElem?_pos]
        refine callP_of hE1 (by simp) (by simp) ?_
        simp
        refine .inr ?_
        simp [hw1, htt]
        refine ⟨⟨by omega, by omega⟩, i + 1, ?_, by omega, by omega⟩
        simp [hes2, textsOf_snoc, numsOf_snoc, ← hf]
      · simp [hk, h, mkA, psA, -getElem?_pos]
        refine callP_of hE1 (by simp) (by simp) ?_
        simp
        refine .inr ?_
        simp [hw1, hnn]
        refine ⟨⟨by omega, by omega⟩, i + 1, ?_, by omega, by omega⟩
        simp [hes2, textsOf_snoc, numsOf_snoc, ← hf]
  · obtain rfl : i = kids.length := by omega
    rw [List.take_length]
    obtain ⟨es, hes⟩ : ∃ es, es = kids.map o := ⟨_, rfl⟩
    rw [← hes] at hmx ⊢
    have hle : es.length ≤ 1000 := by rw [hes]; simpa using hlen
    have hnl : (numsOf es).length ≤ 1000 := by
      have h1 : (numsOf es).length ≤ es.length := by simp only [numsOf, List.length_map]; exact List.length_filter_le _ _
      omega
    have htl : (textsOf es).length ≤ 1000 := by
      have h1 : (textsOf es).length ≤ es.length := by simp only [textsOf, List.length_map]; exact List.length_filter_le _ _
      omega
    have l1 : (sortedI (numsOf es)).length = (numsOf es).length := by simp [sortedI]
    have l2 : (sortedS (textsOf es)).length = (textsOf es).length := by simp [sortedS, textsL, bytesL]
    have c1 := sortI_h (numsOf es) (by omega)
    have c2 := sortS_h (textsOf es) (by omega)
    have c3 := compactI_h (sortedI (numsOf es))
    have c4 := compactS_h (sortedS (textsOf es))
    have c5 := literal_h { LitD.zero with kind := 1, term := x.term, texts := compactS (sortedS (textsOf es)), nums := Lib.compact (sortedI (numsOf es)) } s
    generalize Lib.compact (sortedI (numsOf es)) = nx at *
    generalize compactS (sortedS (textsOf es)) = tx at *
    have htt : List.take tx.length (tx.map fun n => [sA n]) = tx.map fun n => [sA n] := List.take_of_length_le (by simp)
    have hnn : List.take nx.length (nx.map fun n => [iA n]) = nx.map fun n => [iA n] := List.take_of_length_le (by simp)
    simp [mkA, psA, OpdD.cs]
    refine ⟨fun hz => ?_, fun hz => ?_⟩
    · refine callP_of (truth_h (es.any fun e => standsF x e 1) s) (by simp) (by simp) ?_
      simp [hmx, hz]
    · refine callH_of [(1000, 1084)] [] c1 (by simp) (by simp) (by simp) ?_
      simp
      refine callH_of [(1000, 1091)] [] c2 (by simp) (by simp) (by simp) ?_
      simp
      refine callH_of [(1000, 1084)] [] c3 (by simp [l1]) (by simp) (by simp) ?_
      simp
      refine callH_of [(1000, 1091)] [] c4 (by simp [l2]) (by simp) (by simp) ?_
      simp [htt, hnn]
      refine callH_of [] [(2000, 116)] c5 (by simp [litCs, LitD.zero, TermD.zero, noText, strsA, intsA]) (by simp) (by simp) ?_
      simp [treeCs, strsA, intsA]
      rw [hmx, if_neg hz]
      simp [Tr.lit, tree_mk, treeCs, strsA, intsA]
end Go.Proofs.YtldnkeackphilaaGreatDoor.X
namespace Go.Proofs.YtldnkeackphilaaGreatDoor.X
open Go.RowKit

theorem mem_all (ps : List Part) (ht : TT ps) (n f : Nat) (hnf : n ≤ f) (H : CondC ps n) : MemC ps n f := by
  intro i p a b s hp h7 hin hk hs
  have hkd := ht.wf.kids i p hp
  have hil := (List.getElem?_eq_some_iff.1 hp).1
  have ha := hkd a (by simp [hk])
  have hb := hkd b (by simp [hk])
  have hpa : ps[a]? = some ps[a] := List.getElem?_eq_getElem (by omega)
  have hpb : ps[b]? = some ps[b] := List.getElem?_eq_getElem (by omega)
  obtain ⟨h1, h2⟩ := ht.mem i p hp h7
  simp only [hk, List.getD_cons_zero, List.getD_cons_succ, partAt_nat hpa, partAt_nat hpb] at h1 h2
  have hx := side_ops ps ht n f hnf H a (by omega) _ hpa h1
  have hcnt := ht.cnt b _ hpb
  have hkb : ∀ k ∈ ps[b].kids, ∃ (j : Nat) (q : Part), k = j ∧ j < b ∧ ps[j]? = some q ∧ kidFitsF ps[b].kind q.kind = true := fun k hk => kid_of ps ht.wf b _ hpb k hk
  generalize hq : ps[b] = q at *
  obtain ⟨kind, text, num, kids⟩ := q
  simp only at h2 hcnt hkb
  have hmF : memberF (condF ps f) ps a b s = if kind = 16 then .lit { LitD.zero with kind := 4, term := keyTermF (opdF (condF ps f) ps a), of_ := num } s none else if kind = 17 then .lit { LitD.zero with kind := 5, term := keyTermF (opdF (condF ps f) ps a) } s none else memberX (opdF (condF ps f) ps a) (kids.map (opdF (condF ps f) ps)) s := by
    unfold memberF
    rw [partAt_nat hpb]
  by_cases h16 : kind = 16 ∨ kind = 17
  · refine member_keys ps a b kind text num kids hpb s (opdF (condF ps f) ps a) (keyTerm_h ps a _ hx) h16 _ (Lib.hid ?_)
    rw [hmF]
    rcases h16 with h | h
    · rw [if_pos h, if_pos h]
    · rw [if_neg (by omega), if_pos h, if_neg (by omega)]
  · obtain rfl : kind = 13 := by omega
    refine member_set ps a b text num kids hpb s (opdF (condF ps f) ps a) (opdF (condF ps f) ps) hcnt hx (fun k hk => ?_) _ (Lib.hid ?_)
    · obtain ⟨j, q, rfl, h3, h4, h5⟩ := hkb k hk
      have h6 : q.kind = 11 ∨ q.kind = 12 := by simpa [kidFitsF] using h5
      exact side_ops ps ht n f hnf H j (by omega) _ h4 (by unfold sideK; omega)
    · rw [hmF, if_neg (by omega), if_neg (by omega)]
def planF (ps : List Part) : List PartD × List (List PartD) := writeT (condF ps ps.length ((ps.length - 1 : Nat) : Int) 0) [] []
theorem plan_good (ps : List Part) (scope : Int) (hsc : R64 scope) (hb : PB ps) (ts : List (Int × Int)) (hts : checkF ps scope = .inr ts) : Has Tryz.prog 13 [.agg [psA ps], iA scope] (.tup [.agg [partsA (planF ps).1, selsA (planF ps).2], iA 0]) noTok := by
  have ht := tt_of hts
  have hv := (typed_of hts).valid
  have hpos := ht.wf.pos
  have hp : ps[ps.length - 1]? = some ps[ps.length - 1] := List.getElem?_eq_getElem (by omega)
  have hl := ht.wf.last
  rw [kindAt_nat ps _ _ hp] at hl
  have hC := cond_all ps ht (fun n f h H => mem_all ps ht n f h H) ps.length (ps.length - 1) ps.length 0 _ hp hl (by omega) (by omega) (by omega)
  have hw := wt_whole hv 0
  have hc := cnt_wt (condF ps ps.length ((ps.length - 1 : Nat) : Int) 0)
  have hle := ht.wf.le
  have e : ((ps.length - 1 : Nat) : Int) = (ps.length : Int) - 1 := by omega
  refine plan_ok ps scope hsc hb hv ts hts (condF ps ps.length ((ps.length - 1 : Nat) : Int) 0) ?_ (by omega) _ rfl
  rw [e] at hC ⊢
  exact hC
end Go.Proofs.YtldnkeackphilaaGreatDoor.X
