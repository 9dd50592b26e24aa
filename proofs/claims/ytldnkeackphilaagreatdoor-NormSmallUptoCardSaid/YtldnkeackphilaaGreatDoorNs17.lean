/- What a plan is made of, in plain Lean, and as values. -/
import Derived.Test.YtldnkeackphilaaGreatDoorNs7
import Derived.Test.YtldnkeackphilaaGreatDoorNs1
import Derived.Lib.SplitLaws
import Derived.Test.YtldnkeackphilaaGreatDoorNs16
set_option linter.unusedSimpArgs false
set_option linter.unusedVariables false
namespace Go.Proofs.YtldnkeackphilaaGreatDoor

def noText : ByteArray := ⟨#[]⟩
structure TermD where
  kind : Int
  side : Int
  key : ByteArray
  sel : Int
structure LitD where
  kind : Int
  term : TermD
  rel : Int
  num : Int
  texts : List ByteArray
  nums : List Int
  other : TermD
  of_ : Int
  key : ByteArray
  sel : Int
def TermD.zero : TermD := ⟨0, 0, noText, 0⟩
def LitD.zero : LitD := ⟨0, .zero, 0, 0, [], [], .zero, 0, noText, 0⟩
structure PartD where
  kind : Int
  neg : Bool
  lit : LitD
  kids : List Int
structure PlanD where
  main : List PartD
  sels : List (List PartD)
abbrev iA (n : Int) : AV := .imm (.int .i64 n)
abbrev bA (b : Bool) : AV := .imm (.bool b)
abbrev sA (s : ByteArray) : AV := .imm (.string s)
def intsA (l : List Int) : AV := .sl (l.map fun n => [iA n])
def strsA (l : List ByteArray) : AV := .sl (l.map fun s => [sA s])
def termCs (t : TermD) : List AV := [iA t.kind, iA t.side, sA t.key, iA t.sel]
def litCs (l : LitD) : List AV := [iA l.kind, iA l.term.kind, iA l.term.side, sA l.term.key, iA l.term.sel, iA l.rel, iA l.num, strsA l.texts, intsA l.nums, iA l.other.kind, iA l.other.side, sA l.other.key, iA l.other.sel, iA l.of_, sA l.key, iA l.sel]
def partCs (p : PartD) : List AV := [iA p.kind, bA p.neg, iA p.lit.kind, iA p.lit.term.kind, iA p.lit.term.side, sA p.lit.term.key, iA p.lit.term.sel, iA p.lit.rel, iA p.lit.num, strsA p.lit.texts, intsA p.lit.nums, iA p.lit.other.kind, iA p.lit.other.side, sA p.lit.other.key, iA p.lit.other.sel, iA p.lit.of_, sA p.lit.key, iA p.lit.sel, intsA p.kids]
def partsA (l : List PartD) : AV := .sl (l.map partCs)
def selsA (l : List (List PartD)) : AV := .sl (l.map fun x => [partsA x])
def planCs (p : PlanD) : List AV := [partsA p.main, selsA p.sels]
end Go.Proofs.YtldnkeackphilaaGreatDoor
/- Plain words on texts: the pieces between a byte. -/
namespace Go.Proofs.YtldnkeackphilaaGreatDoor
open Go.RowKit

def pieces (c : UInt8) : List UInt8 → List (List UInt8)
  | [] => [[]]
  | b :: l => if b = c then [] :: pieces c l else match pieces c l with
    | p :: ps => (b :: p) :: ps
    | [] => [[b]]
theorem pieces_miss (c : UInt8) : ∀ l : List UInt8, c ∉ l → pieces c l = [l]
  | [], _ => rfl
  | b :: l, h => by
    simp only [List.mem_cons, not_or] at h
    rw [pieces, if_neg (Ne.symm h.1), pieces_miss c l h.2]
theorem pieces_hit (c : UInt8) (r : List UInt8) : ∀ a : List UInt8, c ∉ a → pieces c (a ++ c :: r) = a :: pieces c r
  | [], _ => by simp [pieces]
  | b :: a, h => by
    simp only [List.mem_cons, not_or] at h
    rw [List.cons_append, pieces, if_neg (Ne.symm h.1), pieces_hit c r a h.2]
theorem pieces_split (c : UInt8) : ∀ l : List UInt8, Lib.splitK [c] 0 (Lib.count l [c]) l = pieces c l := by
  intro l
  generalize hk : Lib.count l [c] = k
  induction k generalizing l with
  | zero =>
    have : c ∉ l := by
      rw [Lib.count_one] at hk
      exact List.count_eq_zero.1 hk
    rw [pieces_miss c l this]; rfl
  | succ k ih =>
    have hm : c ∈ l := by
      rw [Lib.count_one] at hk
      exact List.count_pos_iff.1 (by omega)
    obtain ⟨a, r, rfl, ha⟩ : ∃ a r, l = a ++ c :: r ∧ c ∉ a := by
      clear hk ih
      induction l with
      | nil => cases hm
      | cons b l ih =>
        by_cases hb : b = c
        · exact ⟨[], l, by rw [hb]; rfl, by simp⟩
        · obtain ⟨a, r, rfl, ha⟩ := ih (by simpa [Ne.symm hb] using hm)
          exact ⟨b :: a, r, rfl, by simp [ha, Ne.symm hb]⟩
    have hidx : Lib.index (a ++ c :: r) [c] = (a.length : Int) := by
      refine Lib.index_first (by simp) ?_ ?_
      · simp [Lib.occAt, List.isPrefixOf]
      · intro j hj
        have : (a ++ c :: r).drop j = a[j] :: (a ++ c :: r).drop (j + 1) := by
          rw [List.drop_eq_getElem_cons (by simp; omega), List.getElem_append_left hj]
        rw [Lib.occAt, this]
        have hne : c ≠ a[j] := fun e => ha (e ▸ List.getElem_mem hj)
        simp [List.isPrefixOf, hne]
    have hc : Lib.count r [c] = k := by
      rw [Lib.count_one] at hk ⊢
      rw [List.count_append, List.count_eq_zero.2 ha, List.count_cons_self] at hk
      omega
    rw [Lib.splitK, hidx, if_neg (by simp), pieces_hit c r a ha]
    have e1 : (a ++ c :: r).take ((a.length : Int).toNat + 0) = a := by simp
    have e2 : (a ++ c :: r).drop ((a.length : Int).toNat + [c].length) = r := by
      rw [show (a.length : Int).toNat + [c].length = a.length + 1 from by simp, List.drop_append]
      simp
    rw [e1, e2, ih r hc]
def piecesB (c : UInt8) (s : ByteArray) : List ByteArray := (pieces c s.data.toList).map fun l => ⟨l.toArray⟩
theorem data_inj {a b : ByteArray} (h : a.data.toList = b.data.toList) : a = b := by
  obtain ⟨a⟩ := a; obtain ⟨b⟩ := b
  simpa using h
theorem split_pieces (c : UInt8) (s : ByteArray) : Lib.splitB ⟨#[c]⟩ 0 (Lib.countB s ⟨#[c]⟩) s = piecesB c s := by
  have h := Lib.splitB_data ⟨#[c]⟩ 0 (Lib.countB s ⟨#[c]⟩) s
  have h2 : (Lib.splitB ⟨#[c]⟩ 0 (Lib.countB s ⟨#[c]⟩) s).map (·.data.toList) = pieces c s.data.toList := by
    rw [h]
    exact pieces_split c s.data.toList
  unfold piecesB
  rw [← h2, List.map_map]
  symm
  conv => rhs; rw [← List.map_id (Lib.splitB ⟨#[c]⟩ 0 (Lib.countB s ⟨#[c]⟩) s)]
  refine List.map_congr_left fun b _ => ?_
  apply data_inj
  simp
theorem pieces_ne (c : UInt8) : ∀ l, pieces c l ≠ []
  | [] => by simp [pieces]
  | b :: l => by
    rw [pieces]
    split
    · simp
    · split <;> simp
theorem pieces_len (c : UInt8) : ∀ l, (pieces c l).length ≤ l.length + 1
  | [] => by simp [pieces]
  | b :: l => by
    have := pieces_len c l
    rw [pieces]
    split
    · simp; omega
    · split
      · rename_i h; rw [h] at this; simp at this ⊢; omega
      · simp
theorem countB_pieces (c : UInt8) (s : ByteArray) : Lib.countB s ⟨#[c]⟩ + 1 = (piecesB c s).length := by
  rw [← split_pieces, Lib.splitB_all ⟨#[c]⟩ (Nat.le_refl 1) 0 _ s rfl]
end Go.Proofs.YtldnkeackphilaaGreatDoor
