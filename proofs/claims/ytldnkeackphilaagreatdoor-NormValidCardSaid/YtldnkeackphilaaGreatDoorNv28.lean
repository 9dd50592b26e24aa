/- norm's functions by the linear calculus: writing a tree. -/
import Derived.Test.YtldnkeackphilaaGreatDoorNv23
import Derived.Test.YtldnkeackphilaaGreatDoorNv27
import Derived.Test.YtldnkeackphilaaGreatDoorNv20
import Derived.Test.YtldnkeackphilaaGreatDoorNv18
import Derived.Test.YtldnkeackphilaaGreatDoorRows
import Derived.HandedShaped
import Derived.Shelf.Vars
import Derived.ProofKit
import Derived.OpenShut
import Derived.LaidMore
import Derived.LaidHandle
import Derived.Lay
import Derived.Carry
import Derived.Stop.Joined
import Derived.Test.YtldnkeackphilaaGreatDoorKf
import Derived.Test.YtldnkeackphilaaGreatDoorCards
import Derived.Test.YtldnkeackphilaaGreatDoorTie
import Derived.SevenTiedAt
set_option linter.unusedSimpArgs false
set_option linter.unusedVariables false
namespace Go.Proofs.YtldnkeackphilaaGreatDoor.X
open Go.RowKit

set_option maxRecDepth 8000
@[simp] theorem tr_binX (op : BinOp) (t : Tr) : binX op (treeA t) (.imm (.pointer none)) = eqlA op false := by simpa [selA_some] using sel_binX op (some t)
@[simp] theorem tr_binXC (P : Program) (op : BinOp) (T : TypeId) (c : Bool) (t : Tr) : binXC P op T c (treeA t) (.imm (.pointer none)) = (eqlC op ∧ ptrP P T = true) := by simpa [selA_some] using sel_binXC P op T c (some t)
def selsR (n : Nat) (l : List (List PartD)) : Nat × Blk := (n, .row 22 (l.map fun x => [partsA x]))
def listR (n : Nat) (l : List PartD) : Nat × Blk := (n, .row 63 (l.map partCs))
/-- What the writer is lent: the lister, the selectors' row, the list's; each none yet, or a row. -/
def selsC : Option (List (List PartD)) → AV
  | none => .nl
  | some l => .rw 1001 0 l.length
def listC : Option (List PartD) → AV
  | none => .nl
  | some l => .rw 1002 0 l.length
def lentW (ls : Option (List PartD)) (ss : Option (List (List PartD))) : List (Nat × Blk) :=
  (1000, .box 104 [selsC ss]) :: ((match ss with | none => [] | some l => [selsR 1001 l]) ++ (match ls with | none => [] | some l => [listR 1002 l]))
/-- .. and what it hands back. -/
def doneW (q : List PartD × List (List PartD)) : List (Nat × Blk) := [(1000, .box 104 [.rw 2001 0 q.2.length]), selsR 2001 q.2, listR 2000 q.1]
theorem kids_le : ∀ l : List Tr, l.length ≤ cntKs l
  | [] => by simp
  | t :: r => by have := kids_le r; have := cnt_one t; simp only [List.length_cons, cntKs]; omega
theorem sel_lt {t u : Tr} (h : t.sel = some u) : cntT u < cntT t := by rw [cnt_kids t, h]; dsimp only; omega
def WriteC (t : Tr) : Prop := ∀ (ls : Option (List PartD)) (ss : Option (List (List PartD))), (ls.getD []).length + cntT t ≤ 100000 → (ss.getD []).length + cntT t ≤ 100000 →
  Hs Tryz.prog 39 [.ref 1000 0, treeA t, listC ls] (lentW ls ss) (.rw 2000 0 (writeT t (ls.getD []) (ss.getD [])).1.length) [1000] (doneW (writeT t (ls.getD []) (ss.getD [])))
theorem foldK_len (l : List Tr) (list : List PartD) (sels : List (List PartD)) (at_ : List Int) : (l.foldl stepK (list, sels, at_)).1.length ≤ list.length + cntKs l ∧ (l.foldl stepK (list, sels, at_)).2.1.length ≤ sels.length + cntKs l := by
  rw [← writeKs_fold]; exact writeKs_len l list sels at_
theorem foldK_at : ∀ (l : List Tr) (x : List PartD × List (List PartD) × List Int), (l.foldl stepK x).2.2.length = x.2.2.length + l.length
  | [], x => by simp
  | t :: r, x => by rw [List.foldl_cons, foldK_at r]; simp [stepK]; omega
set_option maxHeartbeats 4000000 in
theorem write_aux (t : Tr) (IH : ∀ u, cntT u < cntT t → WriteC u) : WriteC t := by
  intro ls ss hl hs
  have hcnt := cnt_kids t
  have hkl := kids_le t.kids
  refine hsX mixed ⟨[0, 1, 2, 6, 7, 9, 10, 11, 15, 16, 17, 18, 50, 54], [1000, 1001, 1002, 7, 24, 10024, 29, 30, 10, 75, 10075, 82, 83, 88, 89], [(7, [7]), (10, [10]), (44, [7]), (45, [7])], [(14, [75]), (15, [7])], [1000]⟩ [] [] [.keep 1000, .cell 1000 0 2001, .slot 6 2000] Tryz.func39 rfl rfl rfl (by kernel_rfl) (by simp [lentW]) ?_
  cases ls <;> cases ss
  all_goals
    simp only [Option.getD_none, Option.getD_some] at hl hs ⊢
    simp [lentW, selsC, listC, listR, selsR, treeCs]
  case none.none =>
    refine wF_loop [.slot 2 1002 63, .cell 1000 0 1001 22, .slot 7 7 3] [.keep 1000, .cell 1000 0 1001, .slot 2 1002, .slot 7 7] [0, 1, 2, 7, 15, 16, 17]
      (fun x : Nat × List PartD × List (List PartD) × List Int => St.asc [(0, .ref 1000 0), (1, treeA t), (2, .rw 1002 0 x.2.1.length), (7, .rw 7 0 x.2.2.2.length), (15, .sl (t.kids.map fun t => [treeA t])), (16, iA t.kids.length), (17, iA x.1)]
        [(1000, .box 104 [.rw 1001 0 x.2.2.1.length]), (1001, .row 22 (x.2.2.1.map fun y => [partsA y])), (1002, .row 63 (x.2.1.map partCs)), (7, .row 3 (x.2.2.2.map fun n => [iA n]))] [(1000, true), (1001, true), (1002, true), (7, true)] false)
      (fun x => x.1 ≤ t.kids.length ∧ x.2 = (t.kids.take x.1).foldl stepK ([], [], [])) (fun x => t.kids.length - x.1) (0, [], [], []) _ (by simp) (by simp) (by simp) ?_
    rintro ⟨i, l, s, a⟩ ⟨hi, hr⟩
    dsimp only at hi hr ⊢
    by_cases h : i < t.kids.length
    · have hx : t.kids[i]? = some t.kids[i] := List.getElem?_eq_getElem h
      have h1 : IntKind.i64.wrap ((i : Int) + 1) = (i : Int) + 1 := wrap64 (by omega) (by omega)
      have htk : t.kids.take (i + 1) = t.kids.take i ++ [t.kids[i]] := by rw [List.take_add_one, hx]; rfl
      have hct := cntKs_take t.kids i h
      have hfl := foldK_len (t.kids.take i) [] [] []
      rw [← hr] at hfl
      dsimp only at hfl
      have hu := write_len t.kids[i] l s
      have hat := foldK_at (t.kids.take i) ([], [], [])
      rw [← hr, List.length_take] at hat
      simp only [List.length_nil] at hat
      have hC := IH t.kids[i] (by omega) (some l) (some s) (by simp at hfl ⊢; omega) (by simp at hfl ⊢; omega)
      have hr' : (t.kids.take (i + 1)).foldl stepK ([], [], []) = stepK (l, s, a) t.kids[i] := by rw [htk, List.foldl_append, ← hr]; rfl
      obtain ⟨u, eu⟩ : ∃ u, u = t.kids[i] := ⟨_, rfl⟩
      simp only [Option.getD_some] at hC
      rw [← eu] at hC hx hr' hu hct
      obtain ⟨q, hq⟩ : ∃ q, q = writeT u l s := ⟨_, rfl⟩
      rw [← hq] at hC hu
      clear IH htk eu
      have h2 : IntKind.i64.wrap ((q.1.length : Int) - 1) = (q.1.length : Int) - 1 := wrap64 (by omega) (by omega)
      simp [hx, h, -getElem?_pos]
      refine callH_of [(1000, 1000), (1001, 1001), (1002, 1002)] [(2000, 24), (2001, 10024)] hC (by simp [listC]) (by simp [lentW, selsC, selsR, listR]) (by simp [lentW, selsC, listC, selsR, listR, doneW]) ?_
      simp [lentW, selsC, selsR, listR, doneW, h1, h2]
      have hal : List.take a.length (List.map (fun n => [iA n]) a) = List.map (fun n => [iA n]) a := List.take_of_length_le (by simp)
      refine ⟨⟨by omega, by omega⟩, i + 1, q.1, q.2, a ++ [(q.1.length : Int) - 1], ?_, ⟨by omega, ?_⟩, by omega⟩
      · simp [hal]
      · rw [hr', hq]; rfl
    · obtain rfl : i = t.kids.length := by omega
      rw [List.take_length] at hr
      have hfl := foldK_len t.kids [] [] []
      rw [← hr] at hfl
      simp only [List.length_nil] at hfl
      have hat := foldK_at t.kids ([], [], [])
      rw [← hr] at hat
      simp only [List.length_nil] at hat
      have hal : List.take a.length (List.map (fun n => [iA n]) a) = List.map (fun n => [iA n]) a := List.take_of_length_le (by simp)
      have hll : List.take l.length (List.map partCs l) = List.map partCs l := List.take_of_length_le (by simp)
      rcases hsel : t.sel with _ | v
      · have hw : writeT t [] [] = (l ++ [⟨t.kind, t.neg, t.lt, a⟩], s) := by rw [writeT_eq, hsel, ← hr]
        rw [hw]
        simp [hsel, treeCs, strsA, intsA, selA_none]
        refine ⟨⟨by omega, by omega⟩, ?_⟩
        simp [doneW, listR, selsR, partCs, intsA, strsA, hal, hll]
      · have hw : writeT t [] [] = (l ++ [⟨t.kind, t.neg, t.lt.at_ s.length, a⟩], (writeT v [] s).2 ++ [(writeT v [] s).1]) := by rw [writeT_eq, hsel, ← hr]
        have hsl : List.take s.length (List.map (fun y => [partsA y]) s) = List.map (fun y => [partsA y]) s := List.take_of_length_le (by simp)
        have hv := cnt_one v
        have hcv : cntT t = 1 + cntKs t.kids + cntT v := by rw [hcnt, hsel]
        have hV := IH v (sel_lt hsel) none (some s) (by simp; omega) (by simp; omega)
        have hlv := write_len v [] s
        simp only [List.length_nil] at hlv
        simp only [Option.getD_some, Option.getD_none] at hV
        obtain ⟨q, hq⟩ : ∃ q, q = writeT v [] s := ⟨_, rfl⟩
        rw [← hq] at hV hw hlv
        clear IH
        simp [hsel, treeCs, strsA, intsA, selA_some]
        refine ⟨fun h7 => ?_, fun h7 => ?_⟩
        all_goals
          refine callH_of [(1000, 1000), (1001, 1001)] [(2000, 75), (2001, 10075)] hV (by simp [listC]) (by simp [lentW, selsC, selsR, listR]) (by simp [lentW, selsC, listC, selsR, listR, doneW]) ?_
          simp [lentW, selsC, selsR, listR, doneW]
          have hql : List.take q.2.length (List.map (fun y => [partsA y]) q.2) = List.map (fun y => [partsA y]) q.2 := List.take_of_length_le (by simp)
          have hqf : List.take q.1.length (List.map partCs q.1) = List.map partCs q.1 := List.take_of_length_le (by simp)
          rw [hw]
          refine ⟨⟨by omega, by omega⟩, ⟨by omega, by omega⟩, ?_⟩
          simp only [hql, hqf, hal, hll]
          simp [partsA, partCs, LitD.at_, h7, intsA, strsA]
  case none.some s0 =>
    refine wF_loop [.slot 2 1002 63, .cell 1000 0 1001 22, .slot 7 7 3] [.keep 1000, .cell 1000 0 1001, .slot 2 1002, .slot 7 7] [0, 1, 2, 7, 15, 16, 17]
      (fun x : Nat × List PartD × List (List PartD) × List Int => St.asc [(0, .ref 1000 0), (1, treeA t), (2, .rw 1002 0 x.2.1.length), (7, .rw 7 0 x.2.2.2.length), (15, .sl (t.kids.map fun t => [treeA t])), (16, iA t.kids.length), (17, iA x.1)]
        [(1000, .box 104 [.rw 1001 0 x.2.2.1.length]), (1001, .row 22 (x.2.2.1.map fun y => [partsA y])), (1002, .row 63 (x.2.1.map partCs)), (7, .row 3 (x.2.2.2.map fun n => [iA n]))] [(1000, true), (1001, true), (1002, true), (7, true)] false)
      (fun x => x.1 ≤ t.kids.length ∧ x.2 = (t.kids.take x.1).foldl stepK ([], s0, [])) (fun x => t.kids.length - x.1) (0, [], s0, []) _ (by simp) (by simp) (by simp) ?_
    rintro ⟨i, l, s, a⟩ ⟨hi, hr⟩
    dsimp only at hi hr ⊢
    by_cases h : i < t.kids.length
    · have hx : t.kids[i]? = some t.kids[i] := List.getElem?_eq_getElem h
      have h1 : IntKind.i64.wrap ((i : Int) + 1) = (i : Int) + 1 := wrap64 (by omega) (by omega)
      have htk : t.kids.take (i + 1) = t.kids.take i ++ [t.kids[i]] := by rw [List.take_add_one, hx]; rfl
      have hct := cntKs_take t.kids i h
      have hfl := foldK_len (t.kids.take i) [] s0 []
      rw [← hr] at hfl
      dsimp only at hfl
      have hu := write_len t.kids[i] l s
      have hat := foldK_at (t.kids.take i) ([], s0, [])
      rw [← hr, List.length_take] at hat
      simp only [List.length_nil] at hat
      have hC := IH t.kids[i] (by omega) (some l) (some s) (by simp at hfl ⊢; omega) (by simp at hfl ⊢; omega)
      have hr' : (t.kids.take (i + 1)).foldl stepK ([], s0, []) = stepK (l, s, a) t.kids[i] := by rw [htk, List.foldl_append, ← hr]; rfl
      obtain ⟨u, eu⟩ : ∃ u, u = t.kids[i] := ⟨_, rfl⟩
      simp only [Option.getD_some] at hC
      rw [← eu] at hC hx hr' hu hct
      obtain ⟨q, hq⟩ : ∃ q, q = writeT u l s := ⟨_, rfl⟩
      rw [← hq] at hC hu
      clear IH htk eu
      have h2 : IntKind.i64.wrap ((q.1.length : Int) - 1) = (q.1.length : Int) - 1 := wrap64 (by omega) (by omega)
      simp [hx, h, -getElem?_pos]
      refine callH_of [(1000, 1000), (1001, 1001), (1002, 1002)] [(2000, 24), (2001, 10024)] hC (by simp [listC]) (by simp [lentW, selsC, selsR, listR]) (by simp [lentW, selsC, listC, selsR, listR, doneW]) ?_
      simp [lentW, selsC, selsR, listR, doneW, h1, h2]
      have hal : List.take a.length (List.map (fun n => [iA n]) a) = List.map (fun n => [iA n]) a := List.take_of_length_le (by simp)
      refine ⟨⟨by omega, by omega⟩, i + 1, q.1, q.2, a ++ [(q.1.length : Int) - 1], ?_, ⟨by omega, ?_⟩, by omega⟩
      · simp [hal]
      · rw [hr', hq]; rfl
    · obtain rfl : i = t.kids.length := by omega
      rw [List.take_length] at hr
      have hfl := foldK_len t.kids [] s0 []
      rw [← hr] at hfl
      simp only [List.length_nil] at hfl
      have hat := foldK_at t.kids ([], s0, [])
      rw [← hr] at hat
      simp only [List.length_nil] at hat
      have hal : List.take a.length (List.map (fun n => [iA n]) a) = List.map (fun n => [iA n]) a := List.take_of_length_le (by simp)
      have hll : List.take l.length (List.map partCs l) = List.map partCs l := List.take_of_length_le (by simp)
      rcases hsel : t.sel with _ | v
      · have hw : writeT t [] s0 = (l ++ [⟨t.kind, t.neg, t.lt, a⟩], s) := by rw [writeT_eq, hsel, ← hr]
        rw [hw]
        simp [hsel, treeCs, strsA, intsA, selA_none]
        refine ⟨⟨by omega, by omega⟩, ?_⟩
        simp [doneW, listR, selsR, partCs, intsA, strsA, hal, hll]
      · have hw : writeT t [] s0 = (l ++ [⟨t.kind, t.neg, t.lt.at_ s.length, a⟩], (writeT v [] s).2 ++ [(writeT v [] s).1]) := by rw [writeT_eq, hsel, ← hr]
        have hsl : List.take s.length (List.map (fun y => [partsA y]) s) = List.map (fun y => [partsA y]) s := List.take_of_length_le (by simp)
        have hv := cnt_one v
        have hcv : cntT t = 1 + cntKs t.kids + cntT v := by rw [hcnt, hsel]
        have hV := IH v (sel_lt hsel) none (some s) (by simp; omega) (by simp; omega)
        have hlv := write_len v [] s
        simp only [List.length_nil] at hlv
        simp only [Option.getD_some, Option.getD_none] at hV
        obtain ⟨q, hq⟩ : ∃ q, q = writeT v [] s := ⟨_, rfl⟩
        rw [← hq] at hV hw hlv
        clear IH
        simp [hsel, treeCs, strsA, intsA, selA_some]
        refine ⟨fun h7 => ?_, fun h7 => ?_⟩
        all_goals
          refine callH_of [(1000, 1000), (1001, 1001)] [(2000, 75), (2001, 10075)] hV (by simp [listC]) (by simp [lentW, selsC, selsR, listR]) (by simp [lentW, selsC, listC, selsR, listR, doneW]) ?_
          simp [lentW, selsC, selsR, listR, doneW]
          have hql : List.take q.2.length (List.map (fun y => [partsA y]) q.2) = List.map (fun y => [partsA y]) q.2 := List.take_of_length_le (by simp)
          have hqf : List.take q.1.length (List.map partCs q.1) = List.map partCs q.1 := List.take_of_length_le (by simp)
          rw [hw]
          refine ⟨⟨by omega, by omega⟩, ⟨by omega, by omega⟩, ?_⟩
          simp only [hql, hqf, hal, hll]
          simp [partsA, partCs, LitD.at_, h7, intsA, strsA]
  case some.none l0 =>
    refine wF_loop [.slot 2 1002 63, .cell 1000 0 1001 22, .slot 7 7 3] [.keep 1000, .cell 1000 0 1001, .slot 2 1002, .slot 7 7] [0, 1, 2, 7, 15, 16, 17]
      (fun x : Nat × List PartD × List (List PartD) × List Int => St.asc [(0, .ref 1000 0), (1, treeA t), (2, .rw 1002 0 x.2.1.length), (7, .rw 7 0 x.2.2.2.length), (15, .sl (t.kids.map fun t => [treeA t])), (16, iA t.kids.length), (17, iA x.1)]
        [(1000, .box 104 [.rw 1001 0 x.2.2.1.length]), (1001, .row 22 (x.2.2.1.map fun y => [partsA y])), (1002, .row 63 (x.2.1.map partCs)), (7, .row 3 (x.2.2.2.map fun n => [iA n]))] [(1000, true), (1001, true), (1002, true), (7, true)] false)
      (fun x => x.1 ≤ t.kids.length ∧ x.2 = (t.kids.take x.1).foldl stepK (l0, [], [])) (fun x => t.kids.length - x.1) (0, l0, [], []) _ (by simp) (by simp) (by simp) ?_
    rintro ⟨i, l, s, a⟩ ⟨hi, hr⟩
    dsimp only at hi hr ⊢
    by_cases h : i < t.kids.length
    · have hx : t.kids[i]? = some t.kids[i] := List.getElem?_eq_getElem h
      have h1 : IntKind.i64.wrap ((i : Int) + 1) = (i : Int) + 1 := wrap64 (by omega) (by omega)
      have htk : t.kids.take (i + 1) = t.kids.take i ++ [t.kids[i]] := by rw [List.take_add_one, hx]; rfl
      have hct := cntKs_take t.kids i h
      have hfl := foldK_len (t.kids.take i) l0 [] []
      rw [← hr] at hfl
      dsimp only at hfl
      have hu := write_len t.kids[i] l s
      have hat := foldK_at (t.kids.take i) (l0, [], [])
      rw [← hr, List.length_take] at hat
      simp only [List.length_nil] at hat
      have hC := IH t.kids[i] (by omega) (some l) (some s) (by simp at hfl ⊢; omega) (by simp at hfl ⊢; omega)
      have hr' : (t.kids.take (i + 1)).foldl stepK (l0, [], []) = stepK (l, s, a) t.kids[i] := by rw [htk, List.foldl_append, ← hr]; rfl
      obtain ⟨u, eu⟩ : ∃ u, u = t.kids[i] := ⟨_, rfl⟩
      simp only [Option.getD_some] at hC
      rw [← eu] at hC hx hr' hu hct
      obtain ⟨q, hq⟩ : ∃ q, q = writeT u l s := ⟨_, rfl⟩
      rw [← hq] at hC hu
      clear IH htk eu
      have h2 : IntKind.i64.wrap ((q.1.length : Int) - 1) = (q.1.length : Int) - 1 := wrap64 (by omega) (by omega)
      simp [hx, h, -getElem?_pos]
      refine callH_of [(1000, 1000), (1001, 1001), (1002, 1002)] [(2000, 24), (2001, 10024)] hC (by simp [listC]) (by simp [lentW, selsC, selsR, listR]) (by simp [lentW, selsC, listC, selsR, listR, doneW]) ?_
      simp [lentW, selsC, selsR, listR, doneW, h1, h2]
      have hal : List.take a.length (List.map (fun n => [iA n]) a) = List.map (fun n => [iA n]) a := List.take_of_length_le (by simp)
      refine ⟨⟨by omega, by omega⟩, i + 1, q.1, q.2, a ++ [(q.1.length : Int) - 1], ?_, ⟨by omega, ?_⟩, by omega⟩
      · simp [hal]
      · rw [hr', hq]; rfl
    · obtain rfl : i = t.kids.length := by omega
      rw [List.take_length] at hr
      have hfl := foldK_len t.kids l0 [] []
      rw [← hr] at hfl
      simp only [List.length_nil] at hfl
      have hat := foldK_at t.kids (l0, [], [])
      rw [← hr] at hat
      simp only [List.length_nil] at hat
      have hal : List.take a.length (List.map (fun n => [iA n]) a) = List.map (fun n => [iA n]) a := List.take_of_length_le (by simp)
      have hll : List.take l.length (List.map partCs l) = List.map partCs l := List.take_of_length_le (by simp)
      rcases hsel : t.sel with _ | v
      · have hw : writeT t l0 [] = (l ++ [⟨t.kind, t.neg, t.lt, a⟩], s) := by rw [writeT_eq, hsel, ← hr]
        rw [hw]
        simp [hsel, treeCs, strsA, intsA, selA_none]
        refine ⟨⟨by omega, by omega⟩, ?_⟩
        simp [doneW, listR, selsR, partCs, intsA, strsA, hal, hll]
      · have hw : writeT t l0 [] = (l ++ [⟨t.kind, t.neg, t.lt.at_ s.length, a⟩], (writeT v [] s).2 ++ [(writeT v [] s).1]) := by rw [writeT_eq, hsel, ← hr]
        have hsl : List.take s.length (List.map (fun y => [partsA y]) s) = List.map (fun y => [partsA y]) s := List.take_of_length_le (by simp)
        have hv := cnt_one v
        have hcv : cntT t = 1 + cntKs t.kids + cntT v := by rw [hcnt, hsel]
        have hV := IH v (sel_lt hsel) none (some s) (by simp; omega) (by simp; omega)
        have hlv := write_len v [] s
        simp only [List.length_nil] at hlv
        simp only [Option.getD_some, Option.getD_none] at hV
        obtain ⟨q, hq⟩ : ∃ q, q = writeT v [] s := ⟨_, rfl⟩
        rw [← hq] at hV hw hlv
        clear IH
        simp [hsel, treeCs, strsA, intsA, selA_some]
        refine ⟨fun h7 => ?_, fun h7 => ?_⟩
        all_goals
          refine callH_of [(1000, 1000), (1001, 1001)] [(2000, 75), (2001, 10075)] hV (by simp [listC]) (by simp [lentW, selsC, selsR, listR]) (by simp [lentW, selsC, listC, selsR, listR, doneW]) ?_
          simp [lentW, selsC, selsR, listR, doneW]
          have hql : List.take q.2.length (List.map (fun y => [partsA y]) q.2) = List.map (fun y => [partsA y]) q.2 := List.take_of_length_le (by simp)
          have hqf : List.take q.1.length (List.map partCs q.1) = List.map partCs q.1 := List.take_of_length_le (by simp)
          rw [hw]
          refine ⟨⟨by omega, by omega⟩, ⟨by omega, by omega⟩, ?_⟩
          simp only [hql, hqf, hal, hll]
          simp [partsA, partCs, LitD.at_, h7, intsA, strsA]
  case some.some l0 s0 =>
    refine wF_loop [.slot 2 1002 63, .cell 1000 0 1001 22, .slot 7 7 3] [.keep 1000, .cell 1000 0 1001, .slot 2 1002, .slot 7 7] [0, 1, 2, 7, 15, 16, 17]
      (fun x : Nat × List PartD × List (List PartD) × List Int => St.asc [(0, .ref 1000 0), (1, treeA t), (2, .rw 1002 0 x.2.1.length), (7, .rw 7 0 x.2.2.2.length), (15, .sl (t.kids.map fun t => [treeA t])), (16, iA t.kids.length), (17, iA x.1)]
        [(1000, .box 104 [.rw 1001 0 x.2.2.1.length]), (1001, .row 22 (x.2.2.1.map fun y => [partsA y])), (1002, .row 63 (x.2.1.map partCs)), (7, .row 3 (x.2.2.2.map fun n => [iA n]))] [(1000, true), (1001, true), (1002, true), (7, true)] false)
      (fun x => x.1 ≤ t.kids.length ∧ x.2 = (t.kids.take x.1).foldl stepK (l0, s0, [])) (fun x => t.kids.length - x.1) (0, l0, s0, []) _ (by simp) (by simp) (by simp) ?_
    rintro ⟨i, l, s, a⟩ ⟨hi, hr⟩
    dsimp only at hi hr ⊢
    by_cases h : i < t.kids.length
    · have hx : t.kids[i]? = some t.kids[i] := List.getElem?_eq_getElem h
      have h1 : IntKind.i64.wrap ((i : Int) + 1) = (i : Int) + 1 := wrap64 (by omega) (by omega)
      have htk : t.kids.take (i + 1) = t.kids.take i ++ [t.kids[i]] := by rw [List.take_add_one, hx]; rfl
      have hct := cntKs_take t.kids i h
      have hfl := foldK_len (t.kids.take i) l0 s0 []
      rw [← hr] at hfl
      dsimp only at hfl
      have hu := write_len t.kids[i] l s
      have hat := foldK_at (t.kids.take i) (l0, s0, [])
      rw [← hr, List.length_take] at hat
      simp only [List.length_nil] at hat
      have hC := IH t.kids[i] (by omega) (some l) (some s) (by simp at hfl ⊢; omega) (by simp at hfl ⊢; omega)
      have hr' : (t.kids.take (i + 1)).foldl stepK (l0, s0, []) = stepK (l, s, a) t.kids[i] := by rw [htk, List.foldl_append, ← hr]; rfl
      obtain ⟨u, eu⟩ : ∃ u, u = t.kids[i] := ⟨_, rfl⟩
      simp only [Option.getD_some] at hC
      rw [← eu] at hC hx hr' hu hct
      obtain ⟨q, hq⟩ : ∃ q, q = writeT u l s := ⟨_, rfl⟩
      rw [← hq] at hC hu
      clear IH htk eu
      have h2 : IntKind.i64.wrap ((q.1.length : Int) - 1) = (q.1.length : Int) - 1 := wrap64 (by omega) (by omega)
      simp [hx, h, -getElem?_pos]
      refine callH_of [(1000, 1000), (1001, 1001), (1002, 1002)] [(2000, 24), (2001, 10024)] hC (by simp [listC]) (by simp [lentW, selsC, selsR, listR]) (by simp [lentW, selsC, listC, selsR, listR, doneW]) ?_
      simp [lentW, selsC, selsR, listR, doneW, h1, h2]
      have hal : List.take a.length (List.map (fun n => [iA n]) a) = List.map (fun n => [iA n]) a := List.take_of_length_le (by simp)
      refine ⟨⟨by omega, by omega⟩, i + 1, q.1, q.2, a ++ [(q.1.length : Int) - 1], ?_, ⟨by omega, ?_⟩, by omega⟩
      · simp [hal]
      · rw [hr', hq]; rfl
    · obtain rfl : i = t.kids.length := by omega
      rw [List.take_length] at hr
      have hfl := foldK_len t.kids l0 s0 []
      rw [← hr] at hfl
      simp only [List.length_nil] at hfl
      have hat := foldK_at t.kids (l0, s0, [])
      rw [← hr] at hat
      simp only [List.length_nil] at hat
      have hal : List.take a.length (List.map (fun n => [iA n]) a) = List.map (fun n => [iA n]) a := List.take_of_length_le (by simp)
      have hll : List.take l.length (List.map partCs l) = List.map partCs l := List.take_of_length_le (by simp)
      rcases hsel : t.sel with _ | v
      · have hw : writeT t l0 s0 = (l ++ [⟨t.kind, t.neg, t.lt, a⟩], s) := by rw [writeT_eq, hsel, ← hr]
        rw [hw]
        simp [hsel, treeCs, strsA, intsA, selA_none]
        refine ⟨⟨by omega, by omega⟩, ?_⟩
        simp [doneW, listR, selsR, partCs, intsA, strsA, hal, hll]
      · have hw : writeT t l0 s0 = (l ++ [⟨t.kind, t.neg, t.lt.at_ s.length, a⟩], (writeT v [] s).2 ++ [(writeT v [] s).1]) := by rw [writeT_eq, hsel, ← hr]
        have hsl : List.take s.length (List.map (fun y => [partsA y]) s) = List.map (fun y => [partsA y]) s := List.take_of_length_le (by simp)
        have hv := cnt_one v
        have hcv : cntT t = 1 + cntKs t.kids + cntT v := by rw [hcnt, hsel]
        have hV := IH v (sel_lt hsel) none (some s) (by simp; omega) (by simp; omega)
        have hlv := write_len v [] s
        simp only [List.length_nil] at hlv
        simp only [Option.getD_some, Option.getD_none] at hV
        obtain ⟨q, hq⟩ : ∃ q, q = writeT v [] s := ⟨_, rfl⟩
        rw [← hq] at hV hw hlv
        clear IH
        simp [hsel, treeCs, strsA, intsA, selA_some]
        refine ⟨fun h7 => ?_, fun h7 => ?_⟩
        all_goals
          refine callH_of [(1000, 1000), (1001, 1001)] [(2000, 75), (2001, 10075)] hV (by simp [listC]) (by simp [lentW, selsC, selsR, listR]) (by simp [lentW, selsC, listC, selsR, listR, doneW]) ?_
          simp [lentW, selsC, selsR, listR, doneW]
          have hql : List.take q.2.length (List.map (fun y => [partsA y]) q.2) = List.map (fun y => [partsA y]) q.2 := List.take_of_length_le (by simp)
          have hqf : List.take q.1.length (List.map partCs q.1) = List.map partCs q.1 := List.take_of_length_le (by simp)
          rw [hw]
          refine ⟨⟨by omega, by omega⟩, ⟨by omega, by omega⟩, ?_⟩
          simp only [hql, hqf, hal, hll]
          simp [partsA, partCs, LitD.at_, h7, intsA, strsA]
theorem write_all (t : Tr) : WriteC t := by
  generalize hn : cntT t = n
  induction n using Nat.strongRecOn generalizing t with
  | ind n ih => exact write_aux t fun u hu => ih (cntT u) (by omega) u rfl
end Go.Proofs.YtldnkeackphilaaGreatDoor.X
/- norm.Plan by the linear calculus, where layers 13 and 14 take the tree. -/
namespace Go.Proofs.YtldnkeackphilaaGreatDoor.X
open Go.RowKit

set_option maxRecDepth 8000
set_option maxHeartbeats 1000000 in
theorem plan_ok (ps : List Part) (scope : Int) (hsc : R64 scope) (hb : PB ps) (hv : validF ps = none) (ts : List (Int × Int)) (hts : checkF ps scope = .inr ts) (T : Tr) (hT : Has Tryz.prog 38 [mkA ps, iA ((ps.length : Int) - 1), iA 0] (treeA T) noTok) (hcnt : cntT T ≤ 100000) (q : List PartD × List (List PartD)) (hq : q = writeT T [] []) :
    Has Tryz.prog 13 [.agg [psA ps], iA scope] (.tup [.agg [partsA q.1, selsA q.2], iA 0]) noTok := by
  have hW := write_all T none none (by simpa using hcnt) (by simpa using hcnt)
  simp only [Option.getD_none] at hW
  rw [← hq] at hW
  have hl : List.take q.1.length (List.map partCs q.1) = List.map partCs q.1 := List.take_of_length_le (by simp)
  have hs : List.take q.2.length (List.map (fun y => [partsA y]) q.2) = List.map (fun y => [partsA y]) q.2 := List.take_of_length_le (by simp)
  have hlen := hb.len
  have hw : IntKind.i64.wrap ((ps.length : Int) - 1) = (ps.length : Int) - 1 := wrap64 (by omega) (by omega)
  refine fnX mixed ⟨[0, 1, 2, 4, 5, 6, 8, 9, 10, 11, 12, 16, 27], [2, 4, 34, 42, 45, 10045], [], [(11, [45, 10045])], []⟩ Tryz.func13 rfl rfl rfl (by kernel_rfl) rfl ?_
  simp [psA]
  refine callP_of (valid_ok ps hb hv) (by simp) (by simp) ?_
  simp
  refine callP_of (check_ok ps scope hsc hb ts hts) (by simp) (by simp) ?_
  simp [hw]
  refine callP_of hT (by simp) (by simp) ?_
  simp
  refine callH_of [(1000, 42)] [(2000, 45), (2001, 10045)] hW (by simp [listC]) (by simp [lentW, selsC, selsR, listR]) (by simp [lentW, selsC, listC, selsR, listR, doneW]) ?_
  simp [lentW, selsC, selsR, listR, doneW]
  simp only [hl, hs]
  simp [partsA, selsA]
end Go.Proofs.YtldnkeackphilaaGreatDoor.X
/- norm.Plan of the fixed tree. -/
namespace Go.Proofs.YtldnkeackphilaaGreatDoor.X
open Go.RowKit

def zoneT : ByteArray := ⟨#[122, 111, 110, 101]⟩
def aT : ByteArray := ⟨#[97]⟩
def ps0 : List Part := [⟨14, zoneT, 2, []⟩, ⟨11, aT, 0, []⟩, ⟨6, noText, 1, [0, 1]⟩, ⟨3, noText, 0, [2]⟩]
theorem ps0_valid : validF ps0 = none := by decide +kernel
theorem ps0_check : checkF ps0 2 = .inr [(2, 2), (2, 0), (1, 2), (1, 2)] := by
  have h : (checkF ps0 2).getRight? = some [(2, 2), (2, 0), (1, 2), (1, 2)] := by decide +kernel
  revert h
  generalize checkF ps0 2 = c
  cases c <;> simp
theorem ps0_wf : WF ps0 := wf_of_shape (by decide +kernel)
theorem ps0_mem {P : Part → Prop} (h : ∀ p ∈ ps0, P p) {i : Nat} {p : Part} (hp : ps0[i]? = some p) : P p := h p (List.mem_of_getElem? hp)
theorem ps0_tt : TT ps0 where
  wf := ps0_wf
  cnt := fun i p hp => ps0_mem (P := fun p => p.kids.length ≤ 1000) (by simp [ps0]) hp
  cmp := fun i p hp => ps0_mem (P := fun p => p.kind = 6 → sideK (partAt ps0 (p.kids.getD 0 0)).kind ∧ sideK (partAt ps0 (p.kids.getD 1 0)).kind) (by simp [ps0, partAt, sideK]) hp
  mem := fun i p hp => ps0_mem (P := fun p => p.kind = 7 → sideK (partAt ps0 (p.kids.getD 0 0)).kind ∧ ((partAt ps0 (p.kids.getD 1 0)).kind = 13 ∨ (partAt ps0 (p.kids.getD 1 0)).kind = 16 ∨ (partAt ps0 (p.kids.getD 1 0)).kind = 17)) (by simp [ps0]) hp
theorem ps0_pb : PB ps0 where
  len := by simp [ps0]
  part := by
    have h : ∀ p ∈ ps0, (decide (-9223372036854775808 ≤ p.kind) && decide (p.kind ≤ 9223372036854775807) && decide (-9223372036854775808 ≤ p.num) && decide (p.num ≤ 9223372036854775807) && decide (p.text.size ≤ 140737488351232) && decide (p.kids.length ≤ 35184372088064) && p.kids.all fun k => decide (-9223372036854775808 ≤ k) && decide (k ≤ 9223372036854775807)) = true := by decide +kernel
    intro p hp
    have := h p hp
    simp only [Bool.and_eq_true, decide_eq_true_eq, List.all_eq_true] at this
    obtain ⟨⟨⟨⟨⟨⟨h1, h2⟩, h3⟩, h4⟩, h5⟩, h6⟩, h7⟩ := this
    exact ⟨⟨h1, h2⟩, ⟨h3, h4⟩, h5, h6, fun k hk => ⟨(h7 k hk).1, (h7 k hk).2⟩⟩
theorem ps0_memC (n f : Nat) : MemC ps0 n f := fun i p a b s hp h7 => absurd h7 (ps0_mem (P := fun p => ¬ p.kind = 7) (by simp [ps0]) hp)
theorem ps0_cond : CondC ps0 4 := cond_all ps0 ps0_tt (fun n f _ _ => ps0_memC n f) 4
/-- Its plan: one literal, negated. -/
def main0 : List PartD := [⟨5, true, { LitD.zero with kind := 1, term := ⟨2, 2, zoneT, 0⟩, texts := [aT] }, []⟩]
theorem ps0_tree : condF ps0 4 3 0 = .lit { LitD.zero with kind := 1, term := ⟨2, 2, zoneT, 0⟩, texts := [aT] } 1 none := by
  simp [condF, condStep, ps0, partAt, comparedF, comparedX, opdF, opdOf, againstF, againstL]
theorem plan0 : Has Tryz.prog 13 [.agg [psA ps0], iA 2] (.tup [.agg [partsA main0, selsA []], iA 0]) noTok := by
  refine plan_ok ps0 2 ⟨by decide, by decide⟩ ps0_pb ps0_valid _ ps0_check (condF ps0 4 3 0) ?_ ?_ (main0, []) ?_
  · exact ps0_cond 3 4 0 ⟨3, noText, 0, [2]⟩ rfl (by simp [isCondF]) (by omega) (by omega) (by omega)
  · rw [ps0_tree]; simp [Tr.lit, cntT, cntKs]
  · rw [ps0_tree]; simp [Tr.lit, writeT, writeKs, main0]
end Go.Proofs.YtldnkeackphilaaGreatDoor.X
/- berthlaw16's small functions. -/
namespace Go.Proofs.YtldnkeackphilaaGreatDoor
open Go.RowKit

theorem num_h (n : Int) : Has Tryz.prog 16 [iA n] (iA n) noTok := by
  refine fnT Tryz.mixed [0, 2] [] [] Tryz.func16 rfl rfl rfl (by kernel_rfl) rfl ?_
  simp
/-- A part that is a node's label. -/
theorem label_h (key : ByteArray) : Has Tryz.prog 34 [sA key] (.agg [iA 14, sA key, iA 2, .sl []]) noTok := by
  refine fnT Tryz.mixed [0, 2] [] [] Tryz.func34 rfl rfl rfl (by kernel_rfl) rfl ?_
  simp
end Go.Proofs.YtldnkeackphilaaGreatDoor
/- berthlaw16's fixed tree: awake. -/
namespace Go.Proofs.YtldnkeackphilaaGreatDoor.X
open Go.RowKit

def plan0D : PlanD := ⟨main0, []⟩
theorem fits0 : FitsP plan0D := by
  refine ⟨⟨by decide, fun p hp => ?_⟩, by decide, fun l hl => by cases hl⟩
  simp [plan0D, main0] at hp
  subst hp
  exact ⟨⟨by decide, by decide⟩, by decide⟩
set_option maxRecDepth 8000
theorem awake_h : Has Tryz.prog 10 [] (bA true) noTok := by
  refine fnX mixed ⟨[0, 1, 2, 3, 4, 48], [7, 9, 11, 1, 2, 4], [], [], []⟩ Tryz.func10 rfl rfl rfl (by kernel_rfl) rfl ?_
  have h1 := label_h zoneT
  have h2 := plan0
  have h3 := nValid_h plan0D fits0
  have e1 : (zoneT.toList == [122, 111, 110, 101]) = true := by decide +kernel
  have e2 : (aT.toList == [97]) = true := by decide +kernel
  have e3 : planOkF plan0D = true := by decide +kernel
  rw [e3] at h3
  simp only [psA, ps0, List.map_cons, List.map_nil, pCs, intsA, strsA, LitD.zero, TermD.zero, partsA, selsA, main0, partCs, planCs, plan0D] at h1 h2 h3
  simp
  refine callP_of h1 (by simp) (by simp) ?_
  simp
  refine ⟨rfl, rfl, callP_of h2 (by simp) (by simp) ?_⟩
  simp
  refine callP_of (num_h 0) (by simp) (by simp) ?_
  simp [e1, e2]
  refine .inr ?_
  refine callP_of h3 (by simp) (by simp) ?_
  simp
  exact ⟨eq_of_beq e1, eq_of_beq e2⟩
end Go.Proofs.YtldnkeackphilaaGreatDoor.X
/- A plan as an argument: what it reads as. -/
namespace Go.Proofs.YtldnkeackphilaaGreatDoor
open Go.RowKit

theorem map_of {α : Type} {f : α → List AV} {Q : α → Prop} : ∀ {es : List (List AV)}, (∀ x ∈ es, ∃ y, x = f y ∧ Q y) → ∃ L : List α, es = L.map f ∧ ∀ y ∈ L, Q y
  | [], _ => ⟨[], rfl, fun y hy => by simp at hy⟩
  | x :: es, h => by
    obtain ⟨y, rfl, hy⟩ := h x (by simp)
    obtain ⟨L, rfl, hL⟩ := map_of (es := es) fun z hz => h z (by simp [hz])
    exact ⟨y :: L, rfl, fun z hz => by rcases List.mem_cons.1 hz with rfl | hz; exact hy; exact hL z hz⟩
theorem len_of {n k m : Nat} (h : n * k ≤ reachBytes) (hk : 140737488351232 ≤ m * k) (h0 : 0 < k) : n ≤ m := by
  refine Nat.le_of_mul_le_mul_right (Nat.le_trans h ?_) h0
  simpa [reachBytes] using hk
theorem ints_of' {l : List AV} (h : (PT.sl .nu 8).Of l) : ∃ L : List Int, l = [intsA L] ∧ L.length ≤ 17592186043904 ∧ ∀ k ∈ L, -9223372036854775808 ≤ k ∧ k ≤ 9223372036854775807 := by
  obtain ⟨es, rfl, hl, he⟩ := h
  obtain ⟨L, rfl, hL⟩ := map_of (f := fun n : Int => [iA n]) (Q := fun k => -9223372036854775808 ≤ k ∧ k ≤ 9223372036854775807) fun x hx => he x hx
  exact ⟨L, rfl, len_of (k := 8) (by simpa using hl) (by omega) (by omega), hL⟩
theorem strs_of' {l : List AV} (h : (PT.sl .tx 16).Of l) : ∃ L : List ByteArray, l = [strsA L] ∧ L.length ≤ 8796093021952 ∧ ∀ s ∈ L, s.size ≤ reachBytes := by
  obtain ⟨es, rfl, hl, he⟩ := h
  obtain ⟨L, rfl, hL⟩ := map_of (f := fun s : ByteArray => [sA s]) (Q := fun s => s.size ≤ reachBytes) fun x hx => he x hx
  exact ⟨L, rfl, len_of (k := 16) (by simpa using hl) (by omega) (by omega), hL⟩
def termPT : PT := .st (.pair .nu (.pair .nu (.pair .tx (.pair .nu .unit))))
def litPT : PT := .st (.pair .nu (.pair termPT (.pair .nu (.pair .nu (.pair (.sl .tx 16) (.pair (.sl .nu 8) (.pair termPT (.pair .nu (.pair .tx (.pair .nu .unit))))))))))
def ppartPT : PT := .st (.pair .nu (.pair .bo (.pair litPT (.pair (.sl .nu 8) .unit))))
def planPT : PT := .st (.pair (.sl ppartPT 224) (.pair (.sl (.sl ppartPT 224) 24) .unit))
theorem term_of {l : List AV} (h : termPT.Of l) : ∃ t : TermD, l = termCs t := by
  obtain ⟨l1, r1, rfl, ⟨a, rfl, -⟩, l2, r2, rfl, ⟨b, rfl, -⟩, l3, r3, rfl, ⟨c, rfl, -⟩, l4, r4, rfl, ⟨d, rfl, -⟩, rfl⟩ := h
  exact ⟨⟨a, b, c, d⟩, rfl⟩
theorem lit_of {l : List AV} (h : litPT.Of l) : ∃ t : LitD, l = litCs t ∧ t.fits := by
  obtain ⟨l1, r1, rfl, ⟨a, rfl, -⟩, l2, r2, rfl, hb, l3, r3, rfl, ⟨c, rfl, -⟩, l4, r4, rfl, ⟨d, rfl, -⟩, l5, r5, rfl, he, l6, r6, rfl, hf, l7, r7, rfl, hg, l8, r8, rfl, ⟨i, rfl, -⟩, l9, r9, rfl, ⟨j, rfl, -⟩, l10, r10, rfl, ⟨k, rfl, -⟩, rfl⟩ := h
  obtain ⟨b, rfl⟩ := term_of hb
  obtain ⟨g, rfl⟩ := term_of hg
  obtain ⟨e, rfl, he2, -⟩ := strs_of' he
  obtain ⟨f, rfl, hf2, -⟩ := ints_of' hf
  exact ⟨⟨a, b, c, d, e, f, g, i, j, k⟩, rfl, by show e.length ≤ _; omega, by show f.length ≤ _; omega⟩
theorem ppart_of {l : List AV} (h : ppartPT.Of l) : ∃ t : PartD, l = partCs t ∧ t.fits := by
  obtain ⟨l1, r1, rfl, ⟨a, rfl, -⟩, l2, r2, rfl, ⟨b, rfl⟩, l3, r3, rfl, hc, l4, r4, rfl, hd, rfl⟩ := h
  obtain ⟨c, rfl, hc2⟩ := lit_of hc
  obtain ⟨d, rfl, hd2, -⟩ := ints_of' hd
  exact ⟨⟨a, b, c, d⟩, rfl, hc2, by show d.length ≤ _; omega⟩
theorem pparts_of {l : List AV} (h : (PT.sl ppartPT 224).Of l) : ∃ L : List PartD, l = [partsA L] ∧ FitsL L := by
  obtain ⟨es, rfl, hl, he⟩ := h
  obtain ⟨L, rfl, hL⟩ := map_of (f := partCs) (Q := PartD.fits) fun x hx => ppart_of (he x hx)
  exact ⟨L, rfl, len_of (k := 224) (by simpa using hl) (by omega) (by omega), hL⟩
/-- A plan that was handed in. -/
theorem plan_of {l : List AV} (h : planPT.Of l) : ∃ p : PlanD, l = planCs p ∧ FitsP p := by
  obtain ⟨l1, r1, rfl, ha, l2, r2, rfl, ⟨es, rfl, hl, he⟩, rfl⟩ := h
  obtain ⟨a, rfl, ha2⟩ := pparts_of ha
  obtain ⟨L, rfl, hL⟩ := map_of (f := fun x => [partsA x]) (Q := FitsL) fun x hx => pparts_of (he x hx)
  exact ⟨⟨a, L⟩, rfl, ha2, len_of (k := 24) (by simpa using hl) (by omega) (by omega), hL⟩
end Go.Proofs.YtldnkeackphilaaGreatDoor
/- What a row of this seat gives: the listed variables' cells; a world that meets it; arguments of plain types read; from a function's contract to the row. -/
namespace Go.Proofs.YtldnkeackphilaaGreatDoor
open Go.ChangeShapes Go.WideShapes Go.RowKit

theorem Tryz.ownNone : ownKnob Tryz.prog.godebug = none := by kernel_rfl
theorem Tryz.etNamed : Tryz.prog.globalNamed "errors.errorType" = some 0 := by kernel_rfl
theorem Tryz.rtCut : (Tryz.prog.cutTypes.find? (·.1 == "internal/reflectlite.rtype")).map (·.2) = some 240 := by kernel_rfl
theorem Tryz.typesSize : Tryz.prog.types.size = 426 := by kernel_rfl
theorem Tryz.oneRow : ((List.range 426).filter fun t => Tryz.prog.rowNamed t [101, 114, 114, 111, 114]) = [44] := by kernel_rfl
/-- What the rows of this seat list. -/
def laidN : List (String × DataW Unit) := [("unicode/utf8.acceptRanges", Rows.laid_unicode_utf8_acceptRanges), ("errors.errorType", Rows.laid_errors_errorType), ("unicode/utf8.first", Rows.laid_unicode_utf8_first)]
def laidP : List (String × DataW Unit) := [("unicode/utf8.acceptRanges", Rows.laid_unicode_utf8_acceptRanges), ("unicode/utf8.first", Rows.laid_unicode_utf8_first)]
theorem handle_of_laid {W : World} (h : laidMetH Tryz.prog laidN W) : W.cell? ⟨0, 0, none⟩ = some (.iface 240 (.agg #[.pointer (some ⟨4, 44, none⟩)])) := by
  have h' : laidMet Tryz.prog laidP W ∧ handlesMet Tryz.prog [("errors.errorType", Rows.laid_errors_errorType)] W := h
  obtain ⟨name, u, ty, e1, e2, e3, e4, e5⟩ := h'.2 _ (List.mem_singleton.2 rfl)
  have en : name = [101, 114, 114, 111, 114] := (Option.some.inj e1).symm
  subst en
  obtain rfl := Option.some.inj (Tryz.rtCut.symm.trans e2)
  have hm : ty ∈ (List.range 426).filter fun t => Tryz.prog.rowNamed t [101, 114, 114, 111, 114] := List.mem_filter.2 ⟨List.mem_range.2 (by rw [← Tryz.typesSize]; exact e3), e4⟩
  rw [Tryz.oneRow] at hm
  obtain rfl := List.mem_singleton.1 hm
  have hh : typeHandle Tryz.prog 44 = .pointer (some ⟨4, 44, none⟩) := by kernel_rfl
  rw [hh] at e5
  simpa using World.var?_cell Tryz.etNamed e5 0
theorem max_of_shaped {W : World} (h : W.ShapedOpen Tryz.prog) : ∃ m, W.cell? ⟨1, 0, none⟩ = some (.int .i64 m) :=
  cell_of_shapedOpen_int (zero := #[.int .i64 0]) (t := 3) h (of_decide_eq_true (by kernel_rfl)) (by kernel_rfl) rfl (by kernel_rfl) (by kernel_rfl) (by kernel_rfl)
/-- A world that meets the condition. -/
noncomputable def witW (os : Os) : World :=
  let w0 := World.holding Tryz.prog os ⟨#[], #[], []⟩
  ({ w0 with heap := w0.heap.modify 0 fun
      | .cells _ t frozen => .cells #[.iface 240 (.agg #[.pointer (some ⟨4, 44, none⟩)])] t frozen
      | o => o } : World).layVars Tryz.prog laidP
set_option maxRecDepth 100000 in
theorem witW_os (os : Os) : (witW os).os = os := World.layVars_os _ _ _
set_option maxRecDepth 100000 in
theorem witW_met (os : Os) (args : Array Value) : laidMetH Tryz.prog laidN ((witW os).forCall (fun _ _ => 0) ⟨#[], args, []⟩).memory := by
  have h : laidMetH Tryz.prog laidN (witW os) := laidMetH_of_parts (laidMet_layVars (P := Tryz.prog) (w0 := _) (w' := witW os) (laid := laidP) ["unicode/utf8.acceptRanges", "unicode/utf8.first"] [] rfl (by kernel_rfl) (by kernel_rfl) LaidIn.none) (by kernel_rfl)
  exact h.of_heap (by simp [World.memory, World.forCall, Input.heap])

/-- An argument of that shape. -/
def PT.Arg : PT → AV → Prop
  | .st r, .agg l => r.Of l
  | .st _, _ => False
  | s, a => s.Of [a]
section
variable {H : Type} {enc : TypeId × Value → H} {P : Program} {W W' : World} {base : Nat}
theorem arg_one {s : PT} {v : Value} {l : List AV} (hs : s.sz = 1) (hc : v.cells.toList = [v]) (h1 : s.Of l) (h2 : ReadsTo W v.cells.toList l) : ∃ a, s.Of [a] ∧ RD W v a := by
  have hl := h1.len
  rw [hs] at hl
  obtain ⟨a, rfl⟩ := List.length_eq_one_iff.1 hl
  rw [hc] at h2
  exact ⟨a, h1, (h2 0 v a rfl rfl).2⟩
theorem arg_read {s : PT} {t : TypeId} {v : Value} {d : DataW H} {p : List MemPlace} (ho : s.ok P (.inl t) = true) (hv : Value.okWide P W .any base t v) (ht : DataW.Trod enc P W 0 (fun _ => true) true t v d p) (hw : ∀ n ∈ d.weights P t, n ≤ reachBytes) : ∃ a, s.Arg a ∧ RD W v a := by
  obtain ⟨fuel, ht⟩ := ht
  obtain ⟨hl, l, h1, h2⟩ := (read_all s).1 t fuel _ d p ho ht hw
  cases s with
  | bo =>
    simp only [PT.ok] at ho
    split at ho
    case h_2 => cases ho
    next hu =>
    refine arg_one rfl ?_ h1 h2
    cases v <;> simp [Value.okWide, hu, Cell.okWide, Cell.ok] at hv <;> rfl
  | nu =>
    simp only [PT.ok] at ho
    split at ho
    case h_2 => cases ho
    next hu =>
    refine arg_one rfl ?_ h1 h2
    cases v <;> simp [Value.okWide, hu, Cell.okWide, Cell.ok] at hv <;> rfl
  | tx =>
    simp only [PT.ok] at ho
    split at ho
    case h_2 => cases ho
    next hu =>
    refine arg_one rfl ?_ h1 h2
    cases v <;> simp [Value.okWide, hu, Cell.okWide, Cell.ok] at hv <;> rfl
  | sl e m =>
    simp only [PT.ok] at ho
    split at ho
    case h_2 => cases ho
    next u hu =>
    refine arg_one rfl ?_ h1 h2
    cases v <;> simp [Value.okWide, hu, Cell.okWide, Cell.ok] at hv <;> rfl
  | st r =>
    simp only [PT.ok] at ho
    split at ho
    case h_2 => cases ho
    next fs hu =>
    simp only [Value.okWide, hu] at hv
    obtain ⟨cs, rfl, hsz, -⟩ := hv
    have hlen : cs.size = l.length := by rw [h1.len]; simpa [Value.cells] using hl
    refine ⟨.agg l, h1, .agg _ _ hlen (fun j v hj => ?_) fun j v a hj ha => ?_⟩
    · have hjl : j < l.length := by rw [← hlen]; exact (Array.getElem?_eq_some_iff.1 hj).1
      exact (h2 j v l[j] (by simpa [Value.cells] using hj) (List.getElem?_eq_getElem hjl)).1
    · exact (h2 j v a (by simpa [Value.cells] using hj) ha).2
  | unit => simp [PT.ok] at ho
  | pair a r => simp [PT.ok] at ho
def oks (P : Program) : List PT → List TypeId → Bool
  | [], [] => true
  | s :: ss, t :: ts => s.ok P (.inl t) && oks P ss ts
  | _, _ => false
def Args : List PT → List AV → Prop
  | [], [] => True
  | s :: ss, a :: l => s.Arg a ∧ Args ss l
  | _, _ => False
theorem args_read : ∀ {ss : List PT} {ts : List TypeId} {vs : List Value} {ds : List (DataW H)} {ps : List MemPlace}, oks P ss ts = true → DataW.TrodAll enc P W 0 (fun _ => true) true ts vs ds ps →
    (∀ (j : Nat) t v, ts[j]? = some t → vs[j]? = some v → Value.okWide P W .any base t v) → (∀ n ∈ DataW.weightsEach P ts ds, n ≤ reachBytes) →
    ∃ l, Args ss l ∧ vs.length = l.length ∧ ∀ (i : Nat) v b, vs[i]? = some v → l[i]? = some b → RD W v b
  | [], [], [], [], ps, _, _, _, _ => ⟨[], trivial, rfl, fun i v b h => by simp at h⟩
  | s :: ss, t :: ts, v :: vs, d :: ds, ps, ho, ht, hv, hw => by
    simp only [oks, Bool.and_eq_true] at ho
    obtain ⟨p, q, h1, h2, -⟩ := ht
    simp only [DataW.weightsEach, List.mem_append] at hw
    obtain ⟨a, k1, k2⟩ := arg_read ho.1 (hv 0 t v rfl rfl) h1 fun n hn => hw n (.inl hn)
    obtain ⟨l, k3, k4, k5⟩ := args_read ho.2 h2 (fun j t v h h' => hv (j + 1) t v (by simpa using h) (by simpa using h')) fun n hn => hw n (.inr hn)
    refine ⟨a :: l, ⟨k1, k3⟩, by simp [k4], fun i v b h h' => ?_⟩
    match i with
    | 0 => cases h; cases h'; exact k2
    | i + 1 => exact k5 i v b (by simpa using h) (by simpa using h')
  | [], _ :: _, _, _, _, ho, _, _, _ => by simp [oks] at ho
  | _ :: _, [], _, _, _, ho, _, _, _ => by simp [oks] at ho
  | [], [], _ :: _, _, _, _, ht, _, _ => by simp [DataW.TrodAll] at ht
  | [], [], [], _ :: _, _, _, ht, _, _ => by simp [DataW.TrodAll] at ht
  | _ :: _, _ :: _, [], _, _, _, ht, _, _ => by simp [DataW.TrodAll] at ht
  | _ :: _, _ :: _, _ :: _, [], _, _, ht, _, _ => by simp [DataW.TrodAll] at ht
theorem args_stay (hl : laidOutB P = true) (hb : Below W.heap.size W W') : ∀ {ts : List TypeId} {vs : List Value} {ds : List (DataW H)} {ps : List MemPlace}, (ts.all fun t => P.readableRec t && decide (t < P.types.size)) = true →
    DataW.TrodAll enc P W 0 (fun _ => true) true ts vs ds ps → (∀ x ∈ ps, x.block < W.heap.size) → DataW.TrodAll enc P W' 0 (fun b => decide (b < W.heap.size)) true ts vs ds ps
  | [], [], [], ps, _, h, _ => h
  | t :: ts, v :: vs, d :: ds, ps, hr, h, hlt => by
    obtain ⟨p, q, h1, h2, rfl⟩ := h
    simp only [List.all_cons, Bool.and_eq_true, decide_eq_true_eq] at hr
    exact ⟨p, q, hb.trod hl hr.1.1 hr.1.2 h1 fun x hx => hlt x (by simp [hx]), args_stay hl hb hr.2 h2 fun x hx => hlt x (by simp [hx]), rfl⟩
  | [], _ :: _, _, _, _, h, _ => by simp [DataW.TrodAll] at h
  | [], [], _ :: _, _, _, h, _ => by simp [DataW.TrodAll] at h
  | _ :: _, [], _, _, _, h, _ => by simp [DataW.TrodAll] at h
  | _ :: _, _ :: _, [], _, _, h, _ => by simp [DataW.TrodAll] at h
end
theorem gl_of {W : World} (hL : laidMetH Tryz.prog laidN W) (hS : W.ShapedOpen Tryz.prog) : Gl (GW W) :=
  ⟨(max_of_shaped hS).imp fun m h => ⟨_, h, rfl, .imm _ rfl⟩, ⟨_, handle_of_laid hL, rfl, .imm _ rfl⟩⟩
theorem Tryz.laidOut : laidOutB Tryz.prog = true := by kernel_rfl
set_option maxRecDepth 100000 in
/-- From a law's contract to the row's. -/
theorem law_lifted {f : FuncId} {fn : Func} {s : ChangeSpec} (ss : List PT) (os : Os) (started : os.Started) (H : Type) (enc : TypeId × Value → H)
    (noInit : Tryz.prog.inits.idxOf? f = none) (hfn : Tryz.prog.funcs[f]? = some fn) (hvars : s.vars = []) (hoks : oks Tryz.prog ss fn.params.toList = true) (hread : (fn.params.toList.all fun t => Tryz.prog.readableRec t && decide (t < Tryz.prog.types.size)) = true)
    (hres : fn.resultTypes = #[4]) (hspec : ∀ ds : List (DataW H), ds.length = ss.length → s.fn H ds = { results := [.lit (.bool true)], args := ds }) (law : ∀ l, Args ss l → Has Tryz.prog f l (.imm (.bool true)) noTok)
    (witness : ∃ (w : World) (tape : Tape) (i : Input), w.os = os ∧ (w.forCall tape i).Shaped Tryz.prog ∧ i.vars = [] ∧ Input.okWide Tryz.prog (w.forCall tape i) .any w.heap.size f i ∧
      ((s.pre enc Tryz.prog fn [] false (w.forCall tape i).memory i.args ∧ laidMetH Tryz.prog laidN (w.forCall tape i).memory) ∧ sizedMet enc Tryz.prog fn (OpenSpec.ofChange s) false (w.forCall tape i).memory i.args) ∧ ({} : Assume).holds Tryz.prog (lone (Frame.enter Tryz.prog f i.args .normal) [] (w.forCall tape i))) :
    ReturnsInHanded {} Tryz.checked os f .any (fun w args => (s.pre enc Tryz.prog fn [] false w args ∧ laidMetH Tryz.prog laidN w) ∧ sizedMet enc Tryz.prog fn (OpenSpec.ofChange s) false w args) (s.post enc Tryz.prog fn false true false false) := by
  refine returnsInHanded_of_calls (C := Tryz.checked) Tryz.ownNone started noInit witness ?_
  intro w tape i _ hsh _ hok hpre _
  obtain ⟨_, _, _, fn', hfn', _, _, _, hsz, hval⟩ := hok
  have e : fn' = fn := Option.some.inj (hfn'.symm.trans hfn)
  subst e
  obtain ⟨⟨⟨ds, gs, before, hw0, -⟩, hx⟩, hz⟩ := hpre
  have hw := DataW.Whole.of_heap (w' := w.forCall tape i) (by rfl) hw0
  have hL : laidMetH Tryz.prog laidN (w.forCall tape i) := hx.of_heap (by rfl)
  have hwt := hz.weights hw0
  have hval : ∀ (j : Nat) t v, fn'.params[j]? = some t → i.args[j]? = some v → Value.okWide Tryz.prog (w.forCall tape i) .any w.heap.size t v := hval
  generalize w.forCall tape i = W at *
  clear hw0 hx hz
  have hW := hw
  obtain ⟨p, q, hA, hV, rfl, _, _⟩ := hW
  rw [hvars] at hV
  obtain ⟨rfl, rfl⟩ := trodVars_none hV
  have hwt' : ∀ n ∈ DataW.weightsEach Tryz.prog fn'.params.toList ds, n ≤ reachBytes := fun n hn => by
    have hvt : s.plain.varTypes Tryz.prog = [] := by simp [DataSpec.varTypes, ChangeSpec.plain, hvars]
    have hwt : (DataW.weightsEach Tryz.prog (fn'.params.toList ++ s.plain.varTypes Tryz.prog) (ds ++ [])).all (· ≤ reachBytes) = true := hwt
    rw [hvt, List.append_nil, List.append_nil] at hwt
    exact of_decide_eq_true (List.all_eq_true.1 hwt n hn)
  obtain ⟨l, hargs, hlen, hr⟩ := args_read (base := w.heap.size) hoks hA (fun j t v h h' => hval j t v (by rw [Array.getElem?_toList] at h; exact h) (by rw [Array.getElem?_toList] at h'; exact h')) hwt'
  have hlt : ∀ x ∈ p ++ ([] : List MemPlace), x.block < W.heap.size := fun x hx => by simpa using hw.lt x hx
  have hdl : ds.length = ss.length := by
    have h1 : ∀ {ss : List PT} {l : List AV}, Args ss l → ss.length = l.length := by
      intro ss
      induction ss with
      | nil => intro l h; cases l with
        | nil => rfl
        | cons => exact h.elim
      | cons s ss ih => intro l h; cases l with
        | nil => exact h.elim
        | cons a l => simp [ih h.2]
    have h2 : ∀ {ts : List TypeId} {vs : List Value} {ds : List (DataW H)} {ps : List MemPlace}, DataW.TrodAll enc Tryz.prog W 0 (fun _ => true) true ts vs ds ps → ds.length = vs.length := by
      intro ts
      induction ts with
      | nil => intro vs ds ps h; cases vs <;> cases ds <;> simp [DataW.TrodAll] at h ⊢
      | cons t ts ih => intro vs ds ps h; cases vs <;> cases ds <;> simp [DataW.TrodAll] at h ⊢; obtain ⟨p, q, _, h, _⟩ := h; exact ih h
    rw [h2 hA, h1 hargs, hlen]
  refine ((law l hargs).use_imm W (gl_of hL hsh) i.args (by rw [← hlen, Array.length_toList]) fun j v b h h' => hr j v b (by rw [Array.getElem?_toList]; exact h) h').mono ?_
  rintro e W' ⟨rfl, hb⟩
  refine ChangeSpec.post_blind ⟨ds, [], p ++ [], [], p, [], hw, ?_, ?_, ?_, hb.frame _, fun h => by cases h⟩
  · rw [List.append_nil, hspec ds hdl, hres]
    exact trodAll_mk1 (shut_bool Tryz.underlying4 true)
  · rw [List.append_nil, hspec ds hdl]
    exact args_stay Tryz.laidOut hb hread hA fun x hx => hlt x (by simp [hx])
  · rw [List.append_nil, hspec ds hdl, hvars]
    rfl
end Go.Proofs.YtldnkeackphilaaGreatDoor
/- berthlaw16.NormValid: for every plan that norm.Valid gets, it says what the document's Valid says. Conditions: those of the given row alone (it lists three variables of Go's library; the card ties them to the program's text). -/
namespace Go.Proofs.YtldnkeackphilaaGreatDoor
open Go.ChangeShapes Go.WideShapes Go.RowKit

namespace X
set_option maxRecDepth 8000 in
theorem normValid_h (p : PlanD) (hp : FitsP p) : Has Tryz.prog 3 [.agg (planCs p)] (bA true) noTok := by
  refine fnX mixed ⟨[0, 1, 2, 3, 5], [1], [], [], []⟩ Tryz.func3 rfl rfl rfl (by kernel_rfl) rfl ?_
  have h1 := valid_h p hp
  have h2 := nValid_h p hp
  simp only [planCs, partsA, selsA] at h1 h2
  simp [planCs, partsA, selsA]
  refine callP_of awake_h (by simp) (by simp) ?_
  simp
  refine callP_of h1 (by simp) (by simp) ?_
  simp
  refine callP_of h2 (by simp) (by simp) ?_
  simp
end X
theorem normValid_args (l : List AV) (h : Args [planPT] l) : Has Tryz.prog 3 l (.imm (.bool true)) noTok := by
  match l, h with
  | [a], ⟨h, _⟩ =>
    cases a with
    | agg l =>
      obtain ⟨p, rfl, hp⟩ := plan_of h
      exact X.normValid_h p hp
    | _ => exact h.elim
set_option maxRecDepth 100000 in
theorem normValid_lifted (os : Os) (started : os.Started) (H : Type) (enc : TypeId × Value → H) :
    ReturnsInHanded {} Tryz.checked os 3 .any (fun w args => (Rows.normValidSpec.pre enc Tryz.prog Tryz.f3 [] false w args ∧ laidMetH Tryz.prog laidN w) ∧ sizedMet enc Tryz.prog Tryz.f3 (OpenSpec.ofChange Rows.normValidSpec) false w args) (Rows.normValidSpec.post enc Tryz.prog Tryz.f3 false true false false) :=
  law_lifted [planPT] os started H enc (by kernel_rfl) Tryz.func3 rfl (by kernel_rfl) (by kernel_rfl) (by kernel_rfl)
    (fun ds hd => by
      match ds, hd with
      | [d], _ => rfl)
    normValid_args
    (ChangeSpec.witness_shaped (enc := enc) (C := Tryz.checked) (os := os) (X := fun w _ => laidMetH Tryz.prog laidN w) false (witW os) #[.agg #[.slice .none 0 0, .slice .none 0 0]] 8 (witW_os os)
      (World.shaped_of_ZipB (by kernel_rfl) (by kernel_rfl)) (by kernel_rfl) (by kernel_rfl) (by kernel_rfl) (witW_met os _))
theorem normValid_holds : Rows.NormValidSaid :=
  OpenClaim.holds_of_wide 3 Tryz.f3 rfl rfl rfl rfl rfl rfl rfl ⟨rfl, rfl, rfl, rfl, rfl⟩ rfl rfl rfl rfl rfl (by kernel_rfl) Tryz.func3 normValid_facts
    (of_decide_eq_true (by kernel_rfl)) (by unfold Func.isWrapper; first | (rw [if_pos (by decide +kernel)]; kernel_rfl) | (rw [if_neg (by decide +kernel)]; exact ⟨rfl, rfl⟩))
    (fun os started H enc _ => normValid_lifted os started H enc)
theorem normValid_card : Rows.NormValidCardSaid :=
  Claim7.holds_tied_plain_at .later [] [.data, .handle, .pinned] true (true, "3a9c8ba0db31394d13176adf808722b56f8a218ac4adacccb409ce61df157404") true
    normValid_holds (fun _ h => by cases h) (by kernel_rfl) (fun _ h => by cases h) normValid_row_tie rfl ⟨rfl, rfl⟩ (by kernel_rfl) rfl
    (fun f fn hf hfn => by
      obtain rfl : f = 3 := Option.some.inj ((show Tryz.prog.funcNamed "berth/berthlaw16.NormValid" = some 3 by kernel_rfl).symm.trans hf) |>.symm
      obtain rfl : fn = Tryz.f3 := (Option.some.inj (Tryz.func3.symm.trans hfn)).symm
      exact ⟨by kernel_rfl, fun j t ht => by
        rw [Tryz.params3] at ht
        have hm : t ∈ [25] := by simpa using Array.mem_of_getElem? ht
        have hall : ([25].all fun u => !Tryz.prog.wantsStandIn u) = true := by kernel_rfl
        exact (show Tryz.prog.wantsStandIn t = false by simpa using List.all_eq_true.1 hall t hm)⟩)
    (by kernel_rfl)
#print axioms normValid_card
end Go.Proofs.YtldnkeackphilaaGreatDoor
