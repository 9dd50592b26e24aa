/- show.Nest, show.Valid. -/
import Derived.Test.YtldnkeackphilaaGreatDoorNv21
import Derived.Shelf.Strings.Cut
import Derived.Shelf.Strings.Split
import Derived.Shelf.Strings.Prefix
import Derived.Shelf.Small.Bits
import Derived.Test.YtldnkeackphilaaGreatDoorProg
import Derived.Test.YtldnkeackphilaaGreatDoorNv18
import Derived.IntWalk
import Derived.Shelf.Sort.Plain
import Derived.Shelf.Slices.CompactI
import Derived.Shelf.Slices.CompactS
import Derived.Shelf.Slices.In.SortNone
import Derived.Shelf.Slices.Turned
import Derived.Sort.OwnSorted
import Derived.Test.YtldnkeackphilaaGreatDoorNv1
set_option linter.unusedSimpArgs false
set_option linter.unusedVariables false
namespace Go.Proofs.YtldnkeackphilaaGreatDoor
open Go.RowKit

def nestBad (ps : List Part) : Option Int := ((nestsF ps).findIdx? (fun x => decide (32 < x))).map (fun i : Nat => (i : Int))
/-- The fault of a tree: its code and place. -/
def validF (ps : List Part) : Option (Int × Int) :=
  match shapeF ps with
  | some i => some (130, i)
  | none => (nestBad ps).map fun i => (122, i)
theorem findIdx_skip {l : List Int} {p : Int → Bool} {k : Nat} {x : Int} (hk : l[k]? = some x) (h : p x = false) : (l.drop k).findIdx? p = ((l.drop (k + 1)).findIdx? p).map (· + 1) := by
  obtain ⟨hk', rfl⟩ := List.getElem?_eq_some_iff.1 hk
  rw [List.drop_eq_getElem_cons hk', List.findIdx?_cons, h]; rfl
theorem findIdx_hit {l : List Int} {p : Int → Bool} {k : Nat} {x : Int} (hk : l[k]? = some x) (h : p x = true) : (l.drop k).findIdx? p = some 0 := by
  obtain ⟨hk', rfl⟩ := List.getElem?_eq_some_iff.1 hk
  rw [List.drop_eq_getElem_cons hk', List.findIdx?_cons, h]; rfl

set_option maxHeartbeats 1000000 in
theorem nest_c (ps : List Part) (v : Value) (w : World) (hp : PartsV w v ps) :
    Calls Tryz.prog 44 #[.agg #[v]] w fun e w' => ∃ m ev, e = .returned (.tuple #[.int .i64 m, ev]) ∧ ErrV w (validF ps) ev w' := by
  obtain ⟨A, c, rfl, hlen, hps⟩ := id hp
  clear hps
  have hp1 : Hid (PartsV (w.alloc (.cells #[.slice A ps.length c] 30)) (.slice A ps.length c) ps) := hp.below (below_box _ _)
  clear hp
  go_enter Tryz.func44, Tryz.ntmps44
  cases hsh : shapeF ps with
  | some i =>
    have Hsh := Lib.hid hsh
    clear hsh
    go_wp2_with (go_at_call 79; refine (shape_c ps _ _ hp1.out).mono ?_; rw [Hsh.out]; rintro e w' ⟨ev, rfl, hB, bb, rfl, hlt, hh⟩)
    have hV : Hid (ErrV w (validF ps) (.iface 114 (.pointer (some ⟨bb, 0, none⟩))) w') := by
      refine ⟨(below_box w _).trans (hB.mono (by simp)), ?_⟩
      rw [show validF ps = some (130, i) by simp [validF, Hsh.out]]
      exact ⟨bb, rfl, by simp at hlt; omega, hh⟩
    clear hB hlt hh
    go_wp2
    go_ret2
    exact ⟨_, _, rfl, hV.out⟩
  | none =>
    have HWF : Hid (WF ps) := wf_of_shape hsh
    have Hsh := Lib.hid hsh
    clear hsh
    go_wp2_with (go_at_call 79; refine (shape_c ps _ _ hp1.out).mono ?_; rw [Hsh.out]; rintro e w1 ⟨ev, rfl, hB, rfl⟩; obtain ⟨hc, hf⟩ := bcell hB)
    have HB1 : Below w.heap.size w w1 := (below_box w _).trans (hB.mono (by simp))
    have hsz : w.heap.size < w1.heap.size := by have := hB.size; simp at this; omega
    have hp2 : Hid (PartsV w1 (.slice A ps.length c) ps) := hp1.out.below hB
    clear hB
    go_wp2_with (go_at_call 80; refine (nests_c ps _ _ hp2.out HWF.out).mono ?_; rintro e w2 ⟨v2, rfl, hI, hB2⟩; obtain ⟨A2, c2, rfl, hl2, hx2⟩ := id hI)
    have HI := Lib.hid hI
    have HB2 : Below w.heap.size w w2 := HB1.trans (hB2.mono HB1.size)
    clear hI hx2 hB2 HB1 hc hf
    go_wp2
    generalize hnl : (nestsF ps).length = nl at *
    have Hnl := Lib.hid hnl
    have HV : Hid (∀ k : Nat, (nestBad ps = (((nestsF ps).drop k).findIdx? (fun x => decide (32 < x))).map (fun i : Nat => ((k + i : Nat) : Int))) → ∀ x, (nestsF ps)[k]? = some x → 32 < x → validF ps = some (122, (k : Int))) := by
      intro k h x hx h32
      rw [findIdx_hit hx (by simpa using h32)] at h
      simp [validF, Hsh.out, h]
    have HV0 : Hid (nestBad ps = none → validF ps = none) := by intro h; simp [validF, Hsh.out, h]
    clear hnl
    go_loopw [5, 18] (fun ms i wq => ∃ (k : Nat) (m : Int), k ≤ nl ∧ i = .int .i64 k ∧ ms = .int .i64 m ∧ wq = w2 ∧ Hid (nestBad ps = (((nestsF ps).drop k).findIdx? (fun x => decide (32 < x))).map (fun i : Nat => ((k + i : Nat) : Int)))) (fun ms i wq => nl - (intOf i).toNat)
    case atStart => exact ⟨0, 0, Nat.zero_le _, rfl, rfl, rfl, Lib.hid (by simp only [nestBad, List.drop_zero, Nat.zero_add])⟩
    case round =>
      obtain ⟨k, m, hk, rfl, rfl, rfl, hnb⟩ := hrel
      by_cases hlt : k < nl
      · obtain ⟨x, hx⟩ : ∃ x, (nestsF ps)[k]? = some x := ⟨_, List.getElem?_eq_getElem (by have := Hnl.out; omega)⟩
        obtain ⟨hR, bk, ok, hAk, hbk, hck⟩ := HI.out.get k x hx
        subst hAk
        have Hx := Lib.hid hx
        clear hx
        by_cases h32 : 32 < x
        · have hv : Hid (validF ps = some (122, (k : Int))) := HV.out k hnb.out x Hx.out h32
          go_wp2_with (go_at_call 81; refine (fault_c _ _ _).mono ?_; rintro e w' ⟨rfl, rfl⟩)
          go_ret2
          rw [hv.out]
          exact ⟨_, _, rfl, errV_new HB2 _ _ rfl⟩
        · have hn : Hid (nestBad ps = (((nestsF ps).drop (k + 1)).findIdx? (fun x => decide (32 < x))).map (fun i : Nat => ((k + 1 + i : Nat) : Int))) := by
            unfold Hid
            rw [hnb.out, findIdx_skip Hx.out (by simpa using h32), Option.map_map]
            congr 1
            funext i
            simp only [Function.comp]
            omega
          clear hnb
          go_wp2
          all_goals
            go_roundw
            case rel => exact ⟨k + 1, _, by omega, by go_num, by first | rfl | trivial, by first | rfl | trivial, hn⟩
            case measure => simp [intOf]; try omega
      · have hn : Hid (validF ps = none) := HV0.out (by rw [hnb.out, List.drop_eq_nil_of_le (by have := Hnl.out; omega)]; rfl)
        go_wp2
        go_ret2
        rw [hn.out]
        exact ⟨_, _, rfl, HB2, rfl⟩

set_option maxHeartbeats 1000000 in
theorem valid_c (ps : List Part) (v : Value) (w : World) (hp : PartsV w v ps) :
    Calls Tryz.prog 19 #[.agg #[v]] w (ErrP w (validF ps)) := by
  have hp1 : Hid (PartsV (w.alloc (.cells #[v] 30)) v ps) := hp.below (below_box _ _)
  obtain ⟨A, c, rfl, hlen, hps⟩ := hp
  clear hps
  go_enter Tryz.func19, Tryz.ntmps19
  go_wp2_with (go_at_call 44; refine (nest_c ps _ _ hp1.out).mono ?_; rintro e w1 ⟨m, ev, rfl, hE⟩)
  go_ret
  refine ⟨_, rfl, (below_box w _).trans (hE.1.mono (by simp)), ?_⟩
  have h2 := hE.2
  cases hv : validF ps with
  | none => rw [hv] at h2; exact h2
  | some q =>
    rw [hv] at h2
    obtain ⟨b, h3, h4, h5⟩ := h2
    exact ⟨b, h3, by simp at h4; omega, h5⟩
end Go.Proofs.YtldnkeackphilaaGreatDoor
/- Package sorts: the looker's small methods. -/
namespace Go.Proofs.YtldnkeackphilaaGreatDoor
open Go.RowKit

/-- A slice of types (sort and side). -/
def TypesV (w : World) (v : Value) (ts : List (Int × Int)) : Prop :=
  ∃ A c, v = .slice A ts.length c ∧ ts.length ≤ 4398046510976 ∧ ∀ j t, ts[j]? = some t → ∃ b o, A = some ⟨b, o, none⟩ ∧ b < w.heap.size ∧
    w.cell? ⟨b, o + j * 2, none⟩ = some (.int .i64 t.1) ∧ w.cell? ⟨b, o + j * 2 + 1, none⟩ = some (.int .i64 t.2)
theorem TypesV.below {w w1 : World} {v : Value} {xs : List (Int × Int)} (h : TypesV w v xs) (hb : Below w.heap.size w w1) : TypesV w1 v xs := by
  obtain ⟨A, c, rfl, hl, hx⟩ := h
  refine ⟨A, c, rfl, hl, fun j x hj => ?_⟩
  obtain ⟨b, o, hA, hlt, h0, h1⟩ := hx j x hj
  exact ⟨b, o, hA, Nat.lt_of_lt_of_le hlt hb.size, cell_below hb h0, cell_below hb h1⟩
theorem TypesV.get {w : World} {A : Option Addr} {n c : Nat} {xs : List (Int × Int)} (h : TypesV w (.slice A n c) xs) {j : Nat} {t : Int × Int} (hj : xs[j]? = some t) : ∃ b o, A = some ⟨b, o, none⟩ ∧ b < w.heap.size ∧
    w.cell? ⟨b, o + j * 2, none⟩ = some (.int .i64 t.1) ∧ w.cell? ⟨b, o + j * 2 + 1, none⟩ = some (.int .i64 t.2) := by
  obtain ⟨A', c', he, _, hx⟩ := h
  injection he with he
  subst he
  exact hx j t hj
/-- A looker that is read. -/
structure Look (w : World) (lb : Nat) (pv sv tv : Value) (ps : List Part) (sc : List Int) (ts : List (Int × Int)) : Prop where
  c0 : w.cell? ⟨lb, 0, none⟩ = some pv
  c1 : w.cell? ⟨lb, 1, none⟩ = some sv
  c2 : w.cell? ⟨lb, 2, none⟩ = some tv
  lt : lb < w.heap.size
  P : PartsV w pv ps
  S : IntsV w sv sc
  T : TypesV w tv ts
theorem Look.below {w w1 : World} {lb : Nat} {pv sv tv : Value} {ps : List Part} {sc : List Int} {ts : List (Int × Int)} (h : Look w lb pv sv tv ps sc ts) (hb : Below w.heap.size w w1) : Look w1 lb pv sv tv ps sc ts :=
  ⟨cell_below hb h.c0, cell_below hb h.c1, cell_below hb h.c2, Nat.lt_of_lt_of_le h.lt hb.size, h.P.below hb, h.S.below hb, h.T.below hb⟩

def selK (k : Int) : Bool := decide (k = 8 ∨ k = 9 ∨ k = 20)
theorem inner_c (k : Int) (w : World) : Calls Tryz.prog 82 #[.int .i64 k] w fun e w' => e = .returned (.bool (selK k)) ∧ w' = w := by
  go_enter Tryz.func82, Tryz.ntmps82
  go_wp2
  all_goals (go_ret; exact ⟨ret_b (by rw [Bool.eq_iff_iff]; simp_all [selK]; try grind), rfl⟩)
theorem sfault_c (code pl : Int) (w : World) : Calls Tryz.prog 45 #[.int .i64 code, .int .i64 pl] w fun e w' => e = .returned (.pointer (some ⟨w.heap.size, 0, none⟩)) ∧ w' = w.alloc (.cells #[.int .i64 code, .int .i64 pl, .string ⟨#[]⟩, .nilIface] 118) := by
  go_enter Tryz.func45, Tryz.ntmps45
  go_wp2
  go_ret
  exact ⟨rfl, rfl⟩
/-- What a value of type *api.Fault says: nil, or a new fault without name and cause. -/
def FltV (w : World) (r : Option (Int × Int)) (v : Value) (w' : World) : Prop := Below w.heap.size w w' ∧
  match r with
  | none => v = .pointer none
  | some (c, pl) => ∃ b, v = .pointer (some ⟨b, 0, none⟩) ∧ w.heap.size ≤ b ∧ w'.heap[b]? = some (.cells #[.int .i64 c, .int .i64 pl, .string ⟨#[]⟩, .nilIface] 118)
theorem fltV_new {w W : World} (h : Below w.heap.size w W) (c pl : Int) {n : Nat} (hn : n = W.heap.size) : FltV w (some (c, pl)) (.pointer (some ⟨n, 0, none⟩)) (W.alloc (.cells #[.int .i64 c, .int .i64 pl, .string ⟨#[]⟩, .nilIface] 118)) :=
  ⟨h.alloc h.size _, _, rfl, hn ▸ h.size, hn ▸ heap_alloc_new W _⟩
theorem FltV.from {w0 w : World} (hb : Below w0.heap.size w0 w) {r : Option (Int × Int)} {v : Value} {w' : World} (h : FltV w r v w') : FltV w0 r v w' := by
  refine ⟨hb.trans (h.1.mono hb.size), ?_⟩
  have h2 := h.2
  rcases r with _ | ⟨c, pl⟩
  · exact h2
  · obtain ⟨b, h3, h4, h5⟩ := h2
    exact ⟨b, h3, Nat.le_trans hb.size h4, h5⟩

def sideAt (ts : List (Int × Int)) (k : Int) : Int := (ts[k.toNat]?.map (·.2)).getD 0
def sortAt (ts : List (Int × Int)) (k : Int) : Int := (ts[k.toNat]?.map (·.1)).getD 0
def movesF (ts : List (Int × Int)) (k : Int) : Bool := decide (sideAt ts k = 2 ∨ sideAt ts k = 3)
def joinedF (ts : List (Int × Int)) (kids : List Int) : Int := kids.foldl (fun side k => if sideAt ts k ≠ 0 ∧ (side = 0 ∨ side = 1) then sideAt ts k else side) 0
/-- The first kid that is not of sort bool. -/
def boolsF (ts : List (Int × Int)) (kids : List Int) : Option (Int × Int) := (kids.find? fun k => decide (sortAt ts k ≠ 1)).map fun k => (141, k)

theorem sideAt_nat {ts : List (Int × Int)} {k : Nat} {t : Int × Int} (h : ts[k]? = some t) : sideAt ts k = t.2 := by simp [sideAt, h]
theorem sortAt_nat {ts : List (Int × Int)} {k : Nat} {t : Int × Int} (h : ts[k]? = some t) : sortAt ts k = t.1 := by simp [sortAt, h]

theorem moves_c (lb : Nat) (pv sv tv : Value) (ps : List Part) (sc : List Int) (ts : List (Int × Int)) (k : Nat) (w : World) (h : Look w lb pv sv tv ps sc ts) (hk : k < ts.length) :
    Calls Tryz.prog 132 #[.pointer (some ⟨lb, 0, none⟩), .int .i64 k] w fun e w' => e = .returned (.bool (movesF ts k)) ∧ w' = w := by
  obtain ⟨hc0, hc1, hc2, hlb, -, -, A, c, rfl, hl, hx⟩ := h
  obtain ⟨⟨s, d⟩, ht⟩ : ∃ t, ts[k]? = some t := ⟨_, List.getElem?_eq_getElem hk⟩
  obtain ⟨b, o, rfl, hb, h1, h2⟩ := hx k _ ht
  have hs : Hid (sideAt ts k = d) := sideAt_nat ht
  clear hx ht
  have hkl : (k : Int) < ts.length := by omega
  go_enter Tryz.func132, Tryz.ntmps132
  go_wp2
  all_goals (go_ret; exact ⟨ret_b (by rw [movesF, hs.out, Bool.eq_iff_iff]; simp_all; try grind), rfl⟩)

set_option maxHeartbeats 1000000 in
theorem joined_c (lb : Nat) (pv sv tv : Value) (ps : List Part) (sc : List Int) (ts : List (Int × Int)) (kv : Value) (kids : List Int) (w : World) (h : Look w lb pv sv tv ps sc ts) (hv : IntsV w kv kids) (hk : ∀ k ∈ kids, 0 ≤ k ∧ k < ts.length) :
    Calls Tryz.prog 83 #[.pointer (some ⟨lb, 0, none⟩), kv] w fun e w' => e = .returned (.int .i64 (joinedF ts kids)) ∧ w' = w := by
  obtain ⟨hc0, hc1, hc2, hlb, -, -, A, c, rfl, hl, hx⟩ := h
  obtain ⟨Ak, ck, rfl, hkl, hkx⟩ := hv
  have Hx := Lib.hid hx
  have Hkx := Lib.hid hkx
  have Hk := Lib.hid hk
  generalize hkn : kids.length = n at *
  have Hkn := Lib.hid hkn
  clear hx hkx hk hkn
  go_enter Tryz.func83, Tryz.ntmps83
  go_wp2
  go_loop [5, 11] (fun sd i => ∃ (k : Nat) (d : Int), k ≤ n ∧ i = .int .i64 k ∧ sd = .int .i64 d ∧ Hid (d = joinedF ts (kids.take k))) (fun sd i => n - (intOf i).toNat)
  case atStart => exact ⟨0, 0, Nat.zero_le _, rfl, rfl, rfl⟩
  case round =>
    obtain ⟨k, d, hkn, rfl, rfl, hd⟩ := hrel
    by_cases hlt : k < n
    · obtain ⟨x, hx⟩ : ∃ x, kids[k]? = some x := ⟨_, List.getElem?_eq_getElem (by have := Hkn.out; omega)⟩
      obtain ⟨hR, bk, ok, hAk, hbk, hck⟩ := Hkx.out k x hx
      subst hAk
      have hxr := Hk.out x (List.mem_of_getElem? hx)
      obtain ⟨xn, rfl⟩ : ∃ xn : Nat, x = xn := Int.eq_ofNat_of_zero_le (by omega)
      obtain ⟨⟨s, t⟩, ht⟩ : ∃ t, ts[xn]? = some t := ⟨_, List.getElem?_eq_getElem (by omega)⟩
      obtain ⟨b, o, hA, hb, h1, h2⟩ := Hx.out xn _ ht
      subst hA
      have HS : Hid (joinedF ts (kids.take (k + 1)) = if t ≠ 0 ∧ (d = 0 ∨ d = 1) then t else d) := by
        unfold Hid
        rw [List.take_add_one, hx, Option.toList_some, joinedF, List.foldl_append, List.foldl_cons, List.foldl_nil, ← joinedF, ← hd.out, sideAt_nat ht]
      clear hx ht hd
      go_wp2
      all_goals
        go_round
        case rel => exact ⟨k + 1, _, by omega, by go_num, rfl, by unfold Hid; rw [HS.out]; simp_all⟩
        case measure => simp [intOf]; try omega
    · have hf : Hid (d = joinedF ts kids) := by have := hd.out; rwa [List.take_of_length_le (by have := Hkn.out; omega)] at this
      clear hd
      go_wp2
      go_ret
      exact ⟨ret_i hf.out, rfl⟩

set_option maxHeartbeats 1000000 in
theorem bools_c (lb : Nat) (pv sv tv : Value) (ps : List Part) (sc : List Int) (ts : List (Int × Int)) (kv : Value) (kids : List Int) (w : World) (h : Look w lb pv sv tv ps sc ts) (hv : IntsV w kv kids) (hk : ∀ k ∈ kids, 0 ≤ k ∧ k < ts.length) :
    Calls Tryz.prog 84 #[.pointer (some ⟨lb, 0, none⟩), kv] w fun e w' => ∃ v, e = .returned v ∧ FltV w (boolsF ts kids) v w' := by
  obtain ⟨hc0, hc1, hc2, hlb, -, -, A, c, rfl, hl, hx⟩ := h
  obtain ⟨Ak, ck, rfl, hkl, hkx⟩ := hv
  have Hx := Lib.hid hx
  have Hkx := Lib.hid hkx
  have Hk := Lib.hid hk
  generalize hkn : kids.length = n at *
  have Hkn := Lib.hid hkn
  clear hx hkx hk hkn
  go_enter Tryz.func84, Tryz.ntmps84
  go_wp2
  go_loop [9] (fun i => ∃ (k : Nat), k ≤ n ∧ i = .int .i64 k ∧ Hid (boolsF ts kids = boolsF ts (kids.drop k))) (fun i => n - (intOf i).toNat)
  case atStart => exact ⟨0, Nat.zero_le _, rfl, rfl⟩
  case round =>
    obtain ⟨k, hkn, rfl, hd⟩ := hrel
    by_cases hlt : k < n
    · obtain ⟨x, hx⟩ : ∃ x, kids[k]? = some x := ⟨_, List.getElem?_eq_getElem (by have := Hkn.out; omega)⟩
      obtain ⟨hR, bk, ok, hAk, hbk, hck⟩ := Hkx.out k x hx
      subst hAk
      have hxr := Hk.out x (List.mem_of_getElem? hx)
      obtain ⟨xn, rfl⟩ : ∃ xn : Nat, x = xn := Int.eq_ofNat_of_zero_le (by omega)
      obtain ⟨⟨s, t⟩, ht⟩ : ∃ t, ts[xn]? = some t := ⟨_, List.getElem?_eq_getElem (by omega)⟩
      obtain ⟨b, o, hA, hb, h1, h2⟩ := Hx.out xn _ ht
      subst hA
      have HS : Hid (boolsF ts kids = if s = 1 then boolsF ts (kids.drop (k + 1)) else some (141, (xn : Int))) := by
        unfold Hid
        obtain ⟨hk', he⟩ := List.getElem?_eq_some_iff.1 hx
        rw [hd.out, List.drop_eq_getElem_cons hk', he, boolsF, List.find?_cons, sortAt_nat ht]
        by_cases h1 : s = 1 <;> simp [h1, boolsF]
      clear hx ht hd
      by_cases hs1 : s = 1
      · have hs1' : (s != 1) = false := by simp [hs1]
        have HS' : Hid (boolsF ts kids = boolsF ts (kids.drop (k + 1))) := by rw [HS.out, if_pos hs1]; rfl
        clear HS hs1
        go_wp2
        go_round
        case rel => exact ⟨k + 1, by omega, by go_num, HS'⟩
        case measure => simp [intOf]; try omega
      · have hs1' : (s != 1) = true := by simp [hs1]
        have HS' : Hid (boolsF ts kids = some (141, (xn : Int))) := by rw [HS.out, if_neg hs1]; rfl
        clear HS
        go_wp2_with (go_at_call 45; refine (sfault_c _ _ _).mono ?_; rintro e w' ⟨rfl, rfl⟩)
        go_ret
        rw [HS'.out]
        exact ⟨_, rfl, fltV_new (Below.refl _ _) _ _ rfl⟩
    · have hf : Hid (boolsF ts kids = none) := by rw [hd.out, List.drop_eq_nil_of_le (by have := Hkn.out; omega)]; rfl
      clear hd
      go_wp2
      go_ret
      rw [hf.out]
      exact ⟨_, rfl, Below.refl _ _, rfl⟩
end Go.Proofs.YtldnkeackphilaaGreatDoor
/- Names, keys, effects: the program's and the reference's. -/
namespace Go.Proofs.YtldnkeackphilaaGreatDoor
open Go.RowKit

/-- A byte of a text. -/
def bt (s : ByteArray) (i : Nat) : Int := if h : i < s.size then ((s[i]'h).toNat : Int) else 0
theorem bt_at (s : ByteArray) (i : Nat) : ∀ h : i < s.size, ((s[i]'h).toNat : Int) = bt s i := fun h => by simp [bt, h]
theorem bt_range (s : ByteArray) (i : Nat) : 0 ≤ bt s i ∧ bt s i ≤ 255 := by
  unfold bt
  split
  · rename_i h
    have := (s[i]'h).toNat_lt
    omega
  · omega
/-- All bytes from i on. -/
def allFrom (f : Int → Bool) (s : ByteArray) (i : Nat) : Bool := if h : i < s.size then f (bt s i) && allFrom f s (i + 1) else true
termination_by s.size - i
theorem allFrom_end (f : Int → Bool) (s : ByteArray) (i : Nat) (h : ¬ i < s.size) : allFrom f s i = true := by unfold allFrom; rw [dif_neg h]
theorem allFrom_step (f : Int → Bool) (s : ByteArray) (i : Nat) (h : i < s.size) : allFrom f s i = (f (bt s i) && allFrom f s (i + 1)) := by conv => lhs; unfold allFrom; rw [dif_pos h]

def lowN (n : Int) : Bool := decide (97 ≤ n ∧ n ≤ 122 ∨ 48 ≤ n ∧ n ≤ 57)
def wordN (n : Int) : Bool := lowN n || decide (65 ≤ n ∧ n ≤ 90)
def innerN (n : Int) : Bool := wordN n || decide (n = 45 ∨ n = 95 ∨ n = 46)
def partN (n : Int) : Bool := lowN n || decide (n = 45)

section
variable (n : Int) (w : World)
theorem low_c : Calls Tryz.prog 224 #[.int .u8 n] w fun e w' => e = .returned (.bool (lowN n)) ∧ w' = w := by
  go_enter Tryz.func224, Tryz.ntmps224
  go_wp2
  all_goals (go_ret; exact ⟨ret_b (by rw [Bool.eq_iff_iff]; simp_all [lowN]; try grind), rfl⟩)
theorem word_c : Calls Tryz.prog 225 #[.int .u8 n] w fun e w' => e = .returned (.bool (wordN n)) ∧ w' = w := by
  go_enter Tryz.func225, Tryz.ntmps225
  go_wp2_with (go_at_call 224; refine (low_c _ _).mono ?_; rintro e w' ⟨rfl, rfl⟩)
  all_goals (go_ret; exact ⟨ret_b (by rw [Bool.eq_iff_iff]; simp_all [wordN]; try grind), rfl⟩)
theorem innerB_c : Calls Tryz.prog 226 #[.int .u8 n] w fun e w' => e = .returned (.bool (innerN n)) ∧ w' = w := by
  go_enter Tryz.func226, Tryz.ntmps226
  go_wp2_with (go_at_call 225; refine (word_c _ _).mono ?_; rintro e w' ⟨rfl, rfl⟩)
  all_goals (go_ret; exact ⟨ret_b (by rw [Bool.eq_iff_iff]; simp_all [innerN]; try grind), rfl⟩)
end
/-- A short key. -/
def shortF (s : ByteArray) : Bool := decide (1 ≤ s.size ∧ s.size ≤ 63) && wordN (bt s 0) && wordN (bt s (s.size - 1)) && allFrom innerN s 0

set_option maxHeartbeats 1000000 in
theorem isShort_c (s : ByteArray) (w : World) (hs : s.size ≤ 9223372036854775807) : Calls Tryz.prog 187 #[.string s] w fun e w' => e = .returned (.bool (shortF s)) ∧ w' = w := by
  have b0 := bt_at s 0
  have b1 := bt_at s (s.size - 1)
  have Hb : Hid (shortF s = (decide (1 ≤ s.size ∧ s.size ≤ 63) && wordN (bt s 0) && wordN (bt s (s.size - 1)) && allFrom innerN s 0)) := rfl
  have Ha : Hid (∀ k, k < s.size → allFrom innerN s k = (innerN (bt s k) && allFrom innerN s (k + 1))) := allFrom_step innerN s
  generalize shortF s = sh at *
  generalize bt s 0 = x0 at *
  generalize bt s (s.size - 1) = x1 at *
  by_cases h1 : 1 ≤ s.size
  · by_cases h63 : s.size ≤ 63
    · have hs1 : ((s.size : Int) - 1) = ((s.size - 1 : Nat) : Int) := by omega
      by_cases hw0 : wordN x0 = true
      · by_cases hw1 : wordN x1 = true
        · have Hb' : Hid (sh = allFrom innerN s 0) := by unfold Hid; rw [Hb.out]; simp [h1, h63, hw0, hw1]
          clear Hb
          go_enter Tryz.func187, Tryz.ntmps187
          go_wp2_with (go_at_call 225; refine (word_c _ _).mono ?_; rintro e w' ⟨rfl, rfl⟩)
          go_loop [29] (fun i => ∃ (k : Nat), k ≤ s.size ∧ i = .int .i64 k ∧ Hid (sh = allFrom innerN s k)) (fun i => s.size - (intOf i).toNat)
          case atStart => exact ⟨0, Nat.zero_le _, rfl, Hb'⟩
          case round =>
            obtain ⟨k, hk, rfl, hd⟩ := hrel
            by_cases hlt : k < s.size
            · have bk := bt_at s k
              have Hst : Hid (sh = (innerN (bt s k) && allFrom innerN s (k + 1))) := by rw [hd.out, Ha.out k hlt]; rfl
              generalize bt s k = x at *
              by_cases hx : innerN x = true
              · have Hst' : Hid (sh = allFrom innerN s (k + 1)) := by rw [Hst.out, hx]; rfl
                clear Hst hd
                go_wp2_with (go_at_call 226; refine (innerB_c _ _).mono ?_; rintro e w' ⟨rfl, rfl⟩)
                go_round
                case rel => exact ⟨k + 1, by omega, by go_num, Hst'⟩
                case measure => simp [intOf]; try omega
              · have hx' : innerN x = false := by simpa using hx
                have Hst' : Hid (sh = false) := by rw [Hst.out, hx']; rfl
                clear Hst hd
                go_wp2_with (go_at_call 226; refine (innerB_c _ _).mono ?_; rintro e w' ⟨rfl, rfl⟩)
                go_ret
                exact ⟨ret_b Hst'.out.symm, rfl⟩
            · have Hst' : Hid (sh = true) := by rw [hd.out]; exact allFrom_end _ _ _ hlt
              clear hd
              go_wp2
              go_ret
              exact ⟨ret_b Hst'.out.symm, rfl⟩
        · have hw1' : wordN x1 = false := by simpa using hw1
          have Hb' : Hid (sh = false) := by unfold Hid; rw [Hb.out]; simp [hw1']
          clear Hb
          go_enter Tryz.func187, Tryz.ntmps187
          go_wp2_with (go_at_call 225; refine (word_c _ _).mono ?_; rintro e w' ⟨rfl, rfl⟩)
          go_ret
          exact ⟨ret_b Hb'.out.symm, rfl⟩
      · have hw0' : wordN x0 = false := by simpa using hw0
        have Hb' : Hid (sh = false) := by unfold Hid; rw [Hb.out]; simp [hw0']
        clear Hb
        go_enter Tryz.func187, Tryz.ntmps187
        go_wp2_with (go_at_call 225; refine (word_c _ _).mono ?_; rintro e w' ⟨rfl, rfl⟩)
        go_ret
        exact ⟨ret_b Hb'.out.symm, rfl⟩
    · have Hb' : Hid (sh = false) := by unfold Hid; rw [Hb.out]; simp [h63]
      clear Hb
      go_enter Tryz.func187, Tryz.ntmps187
      go_wp2_with (go_at_call 225; refine (word_c _ _).mono ?_; rintro e w' ⟨rfl, rfl⟩)
      go_ret
      exact ⟨ret_b Hb'.out.symm, rfl⟩
  · have Hb' : Hid (sh = false) := by unfold Hid; rw [Hb.out]; simp [h1]
    clear Hb
    go_enter Tryz.func187, Tryz.ntmps187
    go_wp2_with (go_at_call 225; refine (word_c _ _).mono ?_; rintro e w' ⟨rfl, rfl⟩)
    go_ret
    exact ⟨ret_b Hb'.out.symm, rfl⟩
end Go.Proofs.YtldnkeackphilaaGreatDoor
/- The shelf's contracts that are used here, laid by the kit's tools lay-shelf.mjs and lay-plain.mjs; cut by trim.py. -/
namespace Go.Proofs
open Go.Shelf
def Tryz.lays145_ren : Go.Shelf.Ren := ⟨fun | 145 => 185 | 220 => 222 | 219 => 243 | 217 => 248 | 225 => 249 | 224 => 250 | 267 => 251 | 266 => 255 | 314 => 256 | n => n, fun | 9 => 9 | 4 => 4 | 59 => 285 | 3 => 3 | 5 => 5 | 46 => 277 | 146 => 369 | 51 => 336 | n => n, fun | 1 => 1 | n => n⟩
theorem Tryz.lays145 : Go.Proofs.Lays.n145 Tryz.prog Tryz.lays145_ren := {
  mixed := by kernel_rfl
  f145 := Tryz.func185.trans (congrArg some (by kernel_rfl))
  f217 := Tryz.func248.trans (congrArg some (by kernel_rfl))
  f219 := Tryz.func243.trans (congrArg some (by kernel_rfl))
  f220 := Tryz.func222.trans (congrArg some (by kernel_rfl))
  f224 := Tryz.func250.trans (congrArg some (by kernel_rfl))
  f225 := Tryz.func249.trans (congrArg some (by kernel_rfl))
  f266 := Tryz.func255.trans (congrArg some (by kernel_rfl))
  f267 := Tryz.func251.trans (congrArg some (by kernel_rfl))
  f314 := Tryz.func256.trans (congrArg some (by kernel_rfl))
  t3 := Tryz.underlying3
  a3 := Tryz.isAgg3
  z3 := Tryz.sizeOf3
  v3 := Tryz.zeroValue3
  t4 := Tryz.underlying4
  a4 := Tryz.isAgg4
  z4 := Tryz.sizeOf4
  v4 := Tryz.zeroValue4
  t5 := Tryz.underlying5
  a5 := Tryz.isAgg5
  z5 := Tryz.sizeOf5
  v5 := Tryz.zeroValue5
  t9 := Tryz.underlying9
  a9 := Tryz.isAgg9
  z9 := Tryz.sizeOf9
  v9 := Tryz.zeroValue9
  t46 := Tryz.underlying277
  a46 := Tryz.isAgg277
  z46 := Tryz.sizeOf277
  v46 := Tryz.zeroValue277
  t51 := Tryz.underlying336
  a51 := Tryz.isAgg336
  z51 := Tryz.sizeOf336
  v51 := Tryz.zeroValue336
  t59 := Tryz.underlying285
  a59 := Tryz.isAgg285
  z59 := Tryz.sizeOf285
  v59 := Tryz.zeroValue285
  t146 := Tryz.underlying369
  a146 := Tryz.isAgg369
  z146 := Tryz.sizeOf369
  v146 := Tryz.zeroValue369
  g1 := by kernel_rfl }
open Go.RowKit Go.Lib in
/-- strings.Cut: "Cut slices s around the first instance of sep, returning the text before and after sep. The found result reports whether sep appears in s. If sep does not appear in s, cut returns s, "", false.": IT RETURNS 'Lib.cut s sep'; the world is as it was but for the count of draws. (LAID: no walk: one application.) -/
theorem Tryz.strings_Cut (s sep : ByteArray) (m : Int) (w : World) (hs : s.size < 4294967281) (hm : w.cell? ⟨1, 0, none⟩ = some (.int .i64 m)) :
    Calls Tryz.prog 185 #[.string s, .string sep] w fun e w' => e = .returned (.tuple #[.string ⟨(Lib.cut s.data.toList sep.data.toList).1.toArray⟩, .string ⟨(Lib.cut s.data.toList sep.data.toList).2.1.toArray⟩, .bool (Lib.cut s.data.toList sep.data.toList).2.2]) ∧ ∃ n, w' = w.drewN n := Any.strings_Cut Tryz.lays145 s sep m w hs hm
def Tryz.lays101_ren : Go.Shelf.Ren := ⟨fun | 101 => 198 | 208 => 231 | 206 => 245 | n => n, fun | 9 => 9 | 4 => 4 | 3 => 3 | n => n, fun | n => n⟩
theorem Tryz.lays101 : Go.Proofs.Lays.n101 Tryz.prog Tryz.lays101_ren := {
  mixed := by kernel_rfl
  f101 := Tryz.func198.trans (congrArg some (by kernel_rfl))
  f206 := Tryz.func245.trans (congrArg some (by kernel_rfl))
  f208 := Tryz.func231.trans (congrArg some (by kernel_rfl))
  t3 := Tryz.underlying3
  a3 := Tryz.isAgg3
  z3 := Tryz.sizeOf3
  v3 := Tryz.zeroValue3
  t4 := Tryz.underlying4
  a4 := Tryz.isAgg4
  z4 := Tryz.sizeOf4
  v4 := Tryz.zeroValue4
  t9 := Tryz.underlying9
  a9 := Tryz.isAgg9
  z9 := Tryz.sizeOf9
  v9 := Tryz.zeroValue9 }
open Go.RowKit Go.Lib in
/-- strings.TrimPrefix: "TrimPrefix returns s without the provided leading prefix string. If s doesn't start with prefix, s is returned unchanged.": IT RETURNS 'Lib.trimPrefix s prefix'; the world is as it was. (LAID: no walk: one application.) -/
theorem Tryz.strings_TrimPrefix (s p : ByteArray) (w : World) :
    Calls Tryz.prog 198 #[.string s, .string p] w fun e w' => e = .returned (.string ⟨(Lib.trimPrefix s.data.toList p.data.toList).toArray⟩) ∧ w' = w := Any.strings_TrimPrefix Tryz.lays101 s p w
def Tryz.lays146_ren : Go.Shelf.Ren := ⟨fun | 146 => 223 | 221 => 244 | 268 => 252 | 138 => 253 | 143 => 254 | 195 => 257 | 197 => 258 | 218 => 259 | 219 => 243 | 260 => 260 | 217 => 248 | 225 => 249 | 224 => 250 | 267 => 251 | 266 => 255 | 314 => 256 | n => n, fun | 9 => 9 | 31 => 59 | 3 => 3 | 4 => 4 | 0 => 0 | 105 => 372 | 21 => 21 | 5 => 5 | 46 => 277 | 119 => 374 | 139 => 377 | 138 => 376 | 146 => 369 | 51 => 336 | n => n, fun | 1 => 1 | 3 => 2 | 4 => 3 | n => n⟩
theorem Tryz.lays146 : Go.Proofs.Lays.n146 Tryz.prog Tryz.lays146_ren := {
  mixed := by kernel_rfl
  f138 := Tryz.func253.trans (congrArg some (by kernel_rfl))
  f143 := Tryz.func254.trans (congrArg some (by kernel_rfl))
  f146 := Tryz.func223.trans (congrArg some (by kernel_rfl))
  f195 := Tryz.func257.trans (congrArg some (by kernel_rfl))
  f197 := Tryz.func258.trans (congrArg some (by kernel_rfl))
  f217 := Tryz.func248.trans (congrArg some (by kernel_rfl))
  f218 := Tryz.func259.trans (congrArg some (by kernel_rfl))
  f219 := Tryz.func243.trans (congrArg some (by kernel_rfl))
  f221 := Tryz.func244.trans (congrArg some (by kernel_rfl))
  f224 := Tryz.func250.trans (congrArg some (by kernel_rfl))
  f225 := Tryz.func249.trans (congrArg some (by kernel_rfl))
  f260 := Tryz.func260.trans (congrArg some (by kernel_rfl))
  f266 := Tryz.func255.trans (congrArg some (by kernel_rfl))
  f267 := Tryz.func251.trans (congrArg some (by kernel_rfl))
  f268 := Tryz.func252.trans (congrArg some (by kernel_rfl))
  f314 := Tryz.func256.trans (congrArg some (by kernel_rfl))
  t0 := Tryz.underlying0
  a0 := Tryz.isAgg0
  z0 := Tryz.sizeOf0
  v0 := Tryz.zeroValue0
  t3 := Tryz.underlying3
  a3 := Tryz.isAgg3
  z3 := Tryz.sizeOf3
  v3 := Tryz.zeroValue3
  t4 := Tryz.underlying4
  a4 := Tryz.isAgg4
  z4 := Tryz.sizeOf4
  v4 := Tryz.zeroValue4
  t5 := Tryz.underlying5
  a5 := Tryz.isAgg5
  z5 := Tryz.sizeOf5
  v5 := Tryz.zeroValue5
  t9 := Tryz.underlying9
  a9 := Tryz.isAgg9
  z9 := Tryz.sizeOf9
  v9 := Tryz.zeroValue9
  t21 := Tryz.underlying21
  a21 := Tryz.isAgg21
  z21 := Tryz.sizeOf21
  v21 := Tryz.zeroValue21
  t31 := Tryz.underlying59
  a31 := Tryz.isAgg59
  z31 := Tryz.sizeOf59
  v31 := Tryz.zeroValue59
  t46 := Tryz.underlying277
  a46 := Tryz.isAgg277
  z46 := Tryz.sizeOf277
  v46 := Tryz.zeroValue277
  t51 := Tryz.underlying336
  a51 := Tryz.isAgg336
  z51 := Tryz.sizeOf336
  v51 := Tryz.zeroValue336
  t105 := Tryz.underlying372
  a105 := Tryz.isAgg372
  z105 := Tryz.sizeOf372
  v105 := Tryz.zeroValue372
  t119 := Tryz.underlying374
  a119 := Tryz.isAgg374
  z119 := Tryz.sizeOf374
  t138 := Tryz.underlying376
  a138 := Tryz.isAgg376
  z138 := Tryz.sizeOf376
  v138 := Tryz.zeroValue376
  t139 := Tryz.underlying377
  a139 := Tryz.isAgg377
  z139 := Tryz.sizeOf377
  v139 := Tryz.zeroValue377
  t146 := Tryz.underlying369
  a146 := Tryz.isAgg369
  z146 := Tryz.sizeOf369
  v146 := Tryz.zeroValue369
  g1 := by kernel_rfl
  g3 := by kernel_rfl
  g4 := by kernel_rfl }
open Go.RowKit Go.Lib in
/-- strings.Split. (LAID: no walk: one application.) -/
theorem Tryz.strings_Split (s sep : ByteArray) (m : Int) (w : World) (hs : s.size < 4294967281) (hm : w.cell? ⟨1, 0, none⟩ = some (.int .i64 m)) (h1 : 1 ≤ sep.size) :
    Calls Tryz.prog 223 #[.string s, .string sep] w fun e w' =>
      e = .returned (.slice (some ⟨w.heap.size, 0, none⟩) (Lib.countB s sep + 1) (Lib.countB s sep + 1)) ∧ w' = w.alloc (.cells ((Lib.splitB sep 0 (Lib.countB s sep) s).map Value.string).toArray 9) := Any.strings_Split Tryz.lays146 (by kernel_rfl) s sep m w hs hm h1
end Go.Proofs
/- labels.IsName, IsKey; taint.IsEffect; quant.IsName. -/
namespace Go.Proofs.YtldnkeackphilaaGreatDoor
open Go.RowKit

/-- What is known of the program's own variables. -/
structure Glob (w : World) : Prop where
  ml : ∃ m : Int, w.cell? ⟨1, 0, none⟩ = some (.int .i64 m)
  et : w.cell? ⟨0, 0, none⟩ = some (.iface 240 (.agg #[.pointer (some ⟨4, 44, none⟩)]))
theorem Glob.below {w w1 : World} (h : Glob w) (hb : Below w.heap.size w w1) : Glob w1 :=
  ⟨h.ml.imp fun _ h => cell_below hb h, cell_below hb h.et⟩

theorem ne_empty {p : ByteArray} (h : 0 < p.size) : ¬ p.toList = [] := by
  intro e
  rw [Lib.toList_data] at e
  have e3 : p.data.toList.length = p.size := by rw [Array.length_toList]; rfl
  rw [e] at e3
  simp at e3
  omega
theorem is_empty {p : ByteArray} (h : ¬ 0 < p.size) : p.toList = [] := by
  rw [Lib.toList_data]
  apply List.eq_nil_of_length_eq_zero
  have e3 : p.data.toList.length = p.size := by rw [Array.length_toList]; rfl
  omega
/-- A piece of a name. -/
def pieceF (p : ByteArray) : Bool := decide (0 < p.size) && lowN (bt p 0) && lowN (bt p (p.size - 1)) && allFrom partN p 0
def nameF (s : ByteArray) : Bool := decide (1 ≤ s.size ∧ s.size ≤ 63) && (piecesB 46 s).all pieceF

theorem all_step {α : Type} {f : α → Bool} {l : List α} {k : Nat} {x : α} (h : l[k]? = some x) : (l.drop k).all f = (f x && (l.drop (k + 1)).all f) := by
  obtain ⟨hk, rfl⟩ := List.getElem?_eq_some_iff.1 h
  rw [List.drop_eq_getElem_cons hk, List.all_cons]
theorem piecesB_short (c : UInt8) (s p : ByteArray) (h : p ∈ piecesB c s) : p.size ≤ s.size := by
  have key : ∀ l : List UInt8, ∀ q ∈ pieces c l, q.length ≤ l.length := by
    intro l
    induction l with
    | nil => intro q hq; simp [pieces] at hq; subst hq; simp
    | cons b l ih =>
      intro q hq
      rw [pieces] at hq
      split at hq
      · rcases List.mem_cons.1 hq with rfl | hq
        · simp
        · have := ih q hq; simp; omega
      · split at hq
        · rename_i p' ps' he
          rw [he] at ih
          rcases List.mem_cons.1 hq with rfl | hq
          · have := ih p' (by simp); simp; omega
          · have := ih q (by simp [hq]); simp; omega
        · simp at hq; subst hq; simp
  unfold piecesB at h
  obtain ⟨q, hq, rfl⟩ := List.mem_map.1 h
  have := key _ q hq
  have e : s.data.toList.length = s.size := by rw [Array.length_toList]; rfl
  have e2 : (⟨q.toArray⟩ : ByteArray).size = q.length := rfl
  omega

set_option maxHeartbeats 2000000 in
set_option maxRecDepth 100000 in
theorem isName_c (s : ByteArray) (w : World) (hs : s.size < 4294967281) (hG : Glob w) : Calls Tryz.prog 186 #[.string s] w fun e w' => e = .returned (.bool (nameF s)) ∧ Below w.heap.size w w' := by
  have Hb : Hid (nameF s = (decide (1 ≤ s.size ∧ s.size ≤ 63) && (piecesB 46 s).all pieceF)) := rfl
  generalize nameF s = sh at *
  obtain ⟨ml, hml⟩ := hG.ml
  clear hG
  by_cases h1 : 1 ≤ s.size
  · by_cases h63 : s.size ≤ 63
    · have Hb' : Hid (sh = (piecesB 46 s).all pieceF) := by unfold Hid; rw [Hb.out]; simp [h1, h63]
      have Hml := Lib.hid hml
      have Hpn : Hid (Lib.countB s ⟨#[46]⟩ + 1 = (piecesB 46 s).length) := countB_pieces 46 s
      have Hps : Hid (∀ p ∈ piecesB 46 s, p.size ≤ 63) := fun p hp => Nat.le_trans (piecesB_short 46 s p hp) h63
      have hpl : (piecesB 46 s).length ≤ 64 := by
        have := pieces_len 46 s.data.toList
        rw [piecesB, List.length_map]
        have e : s.data.toList.length = s.size := by rw [Array.length_toList]; rfl
        omega
      clear Hb hml
      go_enter Tryz.func186, Tryz.ntmps186
      go_wp2_with (go_at_call 223; refine (Tryz.strings_Split s ⟨#[46]⟩ ml _ hs Hml.out (Nat.le_refl 1)).mono ?_; rw [Hpn.out, split_pieces]; rintro e w' ⟨rfl, rfl⟩)
      generalize hn : (piecesB 46 s).length = n at *
      have Hn := Lib.hid hn
      have Hc : Hid (∀ k p, (piecesB 46 s)[k]? = some p → (w.alloc (.cells ((piecesB 46 s).map Value.string).toArray 9)).cell? ⟨w.heap.size, k, none⟩ = some (.string p)) := by
        intro k p hp
        rw [World.cell?_alloc_new]
        simp [hp]
      clear hn
      generalize hW : w.alloc (.cells ((piecesB 46 s).map Value.string).toArray 9) = W at *
      have HBW : Below w.heap.size w W := hW ▸ below_box w _
      clear hW
      go_loop [17] (fun i => ∃ k : Nat, k ≤ n ∧ i = .int .i64 k ∧ Hid (sh = ((piecesB 46 s).drop k).all pieceF)) (fun i => n - (intOf i).toNat)
      case atStart => exact ⟨0, Nat.zero_le _, rfl, Hb'⟩
      case round =>
        obtain ⟨k, hk, rfl, hd⟩ := hrel
        by_cases hlt : k < n
        · obtain ⟨p, hp⟩ : ∃ p, (piecesB 46 s)[k]? = some p := ⟨_, List.getElem?_eq_getElem (by have := Hn.out; omega)⟩
          have hcp := Hc.out k p hp
          have hpsz := Hps.out p (List.mem_of_getElem? hp)
          have Hst : Hid (sh = (pieceF p && ((piecesB 46 s).drop (k + 1)).all pieceF)) := by rw [hd.out, all_step hp]; rfl
          have Hpf : Hid (pieceF p = (decide (0 < p.size) && lowN (bt p 0) && lowN (bt p (p.size - 1)) && allFrom partN p 0)) := rfl
          have b0 := bt_at p 0
          have b1 := bt_at p (p.size - 1)
          have Ha : Hid (∀ k, k < p.size → allFrom partN p k = (partN (bt p k) && allFrom partN p (k + 1))) := allFrom_step partN p
          generalize pieceF p = pf at *
          generalize bt p 0 = x0 at *
          generalize bt p (p.size - 1) = x1 at *
          clear hd hp
          by_cases hp0 : 0 < p.size
          · have he1 : ¬ p.toList = [] := ne_empty hp0
            have he2 : p.toList.isEmpty = false := by simpa using he1
            have hs1 : ((p.size : Int) - 1) = ((p.size - 1 : Nat) : Int) := by omega
            by_cases hw0 : lowN x0 = true
            · by_cases hw1 : lowN x1 = true
              · have Hpf' : Hid (pf = allFrom partN p 0) := by unfold Hid; rw [Hpf.out]; simp [hp0, hw0, hw1]
                clear Hpf
                go_wp2_with (go_at_call 224; refine (low_c _ _).mono ?_; rintro e w' ⟨rfl, rfl⟩)
                go_loop [40] (fun i => ∃ m : Nat, m ≤ p.size ∧ i = .int .i64 m ∧ Hid (pf = allFrom partN p m)) (fun i => p.size - (intOf i).toNat)
                case atStart => exact ⟨0, Nat.zero_le _, rfl, Hpf'⟩
                case round =>
                  obtain ⟨m, hm, rfl, hd⟩ := hrel
                  by_cases hml : m < p.size
                  · have bm := bt_at p m
                    have Hst2 : Hid (pf = (partN (bt p m) && allFrom partN p (m + 1))) := by rw [hd.out, Ha.out m hml]; rfl
                    generalize bt p m = x at *
                    clear hd
                    by_cases hx : partN x = true
                    · have Hst3 : Hid (pf = allFrom partN p (m + 1)) := by rw [Hst2.out, hx]; rfl
                      clear Hst2
                      by_cases hlx : lowN x = true
                      · go_wp2_with (go_at_call 224; refine (low_c _ _).mono ?_; rintro e w' ⟨rfl, rfl⟩)
                        go_round
                        case rel => exact ⟨m + 1, by omega, by go_num, Hst3⟩
                        case measure => simp [intOf]; try omega
                      · have hlx' : lowN x = false := by simpa using hlx
                        have h45 : (x != 45) = false := by simpa [partN, hlx'] using hx
                        go_wp2_with (go_at_call 224; refine (low_c _ _).mono ?_; rintro e w' ⟨rfl, rfl⟩)
                        go_round
                        case rel => exact ⟨m + 1, by omega, by go_num, Hst3⟩
                        case measure => simp [intOf]; try omega
                    · have hx' : partN x = false := by simpa using hx
                      have hlx' : lowN x = false := by simp [partN] at hx'; exact hx'.1
                      have h45 : (x != 45) = true := by simp [partN] at hx'; simpa using hx'.2
                      have Hst3 : Hid (sh = false) := by rw [Hst.out, Hst2.out, hx']; rfl
                      clear Hst2 Hst
                      go_wp2_with (go_at_call 224; refine (low_c _ _).mono ?_; rintro e w' ⟨rfl, rfl⟩)
                      go_ret
                      exact ⟨ret_b Hst3.out.symm, HBW⟩
                  · have Hst3 : Hid (sh = ((piecesB 46 s).drop (k + 1)).all pieceF) := by rw [Hst.out, hd.out, allFrom_end _ _ _ hml]; rfl
                    clear hd Hst
                    go_wp2
                    go_round
                    case rel => exact ⟨k + 1, by omega, by go_num, Hst3⟩
                    case measure => simp [intOf]; try omega
              · have hw1' : lowN x1 = false := by simpa using hw1
                have Hst3 : Hid (sh = false) := by unfold Hid; rw [Hst.out, Hpf.out]; simp [hw1']
                clear Hst Hpf
                go_wp2_with (go_at_call 224; refine (low_c _ _).mono ?_; rintro e w' ⟨rfl, rfl⟩)
                go_ret
                exact ⟨ret_b Hst3.out.symm, HBW⟩
            · have hw0' : lowN x0 = false := by simpa using hw0
              have Hst3 : Hid (sh = false) := by unfold Hid; rw [Hst.out, Hpf.out]; simp [hw0']
              clear Hst Hpf
              go_wp2_with (go_at_call 224; refine (low_c _ _).mono ?_; rintro e w' ⟨rfl, rfl⟩)
              go_ret
              exact ⟨ret_b Hst3.out.symm, HBW⟩
          · have he1 : p.toList = [] := is_empty hp0
            have he2 : p.toList.isEmpty = true := by simpa using he1
            have Hst3 : Hid (sh = false) := by unfold Hid; rw [Hst.out, Hpf.out]; simp [hp0]
            clear Hst Hpf
            go_wp2
            go_ret
            exact ⟨ret_b Hst3.out.symm, HBW⟩
        · have Hst' : Hid (sh = true) := by rw [hd.out, List.drop_eq_nil_of_le (by have := Hn.out; omega)]; rfl
          clear hd
          go_wp2
          go_ret
          exact ⟨ret_b Hst'.out.symm, HBW⟩
    · have Hb' : Hid (sh = false) := by unfold Hid; rw [Hb.out]; simp [h63]
      clear Hb
      go_enter Tryz.func186, Tryz.ntmps186
      go_wp2
      go_ret
      exact ⟨ret_b Hb'.out.symm, Below.refl _ _⟩
  · have Hb' : Hid (sh = false) := by unfold Hid; rw [Hb.out]; simp [h1]
    clear Hb
    go_enter Tryz.func186, Tryz.ntmps186
    go_wp2
    go_ret
    exact ⟨ret_b Hb'.out.symm, Below.refl _ _⟩
end Go.Proofs.YtldnkeackphilaaGreatDoor
/- labels.Int. -/
namespace Go.Proofs.YtldnkeackphilaaGreatDoor
open Go.RowKit

def numGo (s : ByteArray) (i : Nat) (n : Int) : Option Int :=
  if i < s.size then (if 48 ≤ bt s i ∧ bt s i ≤ 57 then numGo s (i + 1) (10 * n + (bt s i - 48)) else none) else some n
termination_by s.size - i
theorem numGo_end (s : ByteArray) (i : Nat) (n : Int) (h : ¬ i < s.size) : numGo s i n = some n := by unfold numGo; rw [if_neg h]
theorem numGo_bad (s : ByteArray) (i : Nat) (n : Int) (h : i < s.size) (h2 : ¬ (48 ≤ bt s i ∧ bt s i ≤ 57)) : numGo s i n = none := by unfold numGo; rw [if_pos h, if_neg h2]
theorem numGo_step (s : ByteArray) (i : Nat) (n : Int) (h : i < s.size) (h2 : 48 ≤ bt s i ∧ bt s i ≤ 57) : numGo s i n = numGo s (i + 1) (10 * n + (bt s i - 48)) := by
  conv => lhs; unfold numGo; rw [if_pos h, if_pos h2]
/-- What stands behind the sign. -/
def dgF (s : ByteArray) : ByteArray := ⟨(Lib.trimPrefix s.data.toList [45]).toArray⟩
/-- labels.Int. -/
def intF (s : ByteArray) : Option Int :=
  if (dgF s).size < 1 ∨ 15 < (dgF s).size then none else
  match numGo (dgF s) 0 0 with
  | none => none
  | some n => if bt (dgF s) 0 = 48 ∧ s.toList ≠ [48] then none else some (if (dgF s).size < s.size then -n else n)
def numR (k : Nat) (n : Int) : Prop := 0 ≤ n ∧ n + 1 ≤ (10 : Int) ^ k
theorem numR_zero : numR 0 0 := ⟨by omega, by simp⟩
theorem numR_succ {k : Nat} {n c : Int} (h : numR k n) (h0 : 0 ≤ c) (h9 : c ≤ 9) : numR (k + 1) (10 * n + c) := by
  obtain ⟨h1, h2⟩ := h
  refine ⟨by omega, ?_⟩
  rw [Int.pow_succ]
  omega
theorem numR_le {k : Nat} {n : Int} (h : numR k n) (hk : k ≤ 15) : 0 ≤ n ∧ n ≤ 999999999999999 := by
  obtain ⟨h1, h2⟩ := h
  refine ⟨h1, ?_⟩
  have : (10 : Int) ^ k ≤ 10 ^ 15 := by
    have h3 : (10 : Nat) ^ k ≤ 10 ^ 15 := Nat.pow_le_pow_right (by omega) hk
    exact_mod_cast h3
  omega
theorem intF_range {s : ByteArray} {n : Int} (h : intF s = some n) : -999999999999999 ≤ n ∧ n ≤ 999999999999999 := by
  have hg : ∀ d k m x, (dgF s).size - k = d → k ≤ (dgF s).size → numR k m → numGo (dgF s) k m = some x → numR (dgF s).size x := by
    intro d
    induction d with
    | zero =>
      intro k m x hd hk hm hx
      rw [numGo_end _ _ _ (by omega)] at hx
      injection hx with hx
      subst hx
      obtain rfl : k = (dgF s).size := by omega
      exact hm
    | succ d ih =>
      intro k m x hd hk hm hx
      by_cases h2 : 48 ≤ bt (dgF s) k ∧ bt (dgF s) k ≤ 57
      · rw [numGo_step _ _ _ (by omega) h2] at hx
        exact ih (k + 1) _ x (by omega) (by omega) (numR_succ hm (by omega) (by omega)) hx
      · rw [numGo_bad _ _ _ (by omega) h2] at hx; cases hx
  unfold intF at h
  split at h
  · cases h
  · rename_i hs
    split at h
    · cases h
    · rename_i x hx
      have hr := numR_le (hg _ 0 0 x rfl (Nat.zero_le _) numR_zero hx) (by omega)
      split at h
      · cases h
      · injection h with h
        split at h <;> omega
def IntP (s : ByteArray) (e : Ending) : Prop := e = .returned (.tuple #[.int .i64 ((intF s).getD 0), .bool (intF s).isSome])

set_option maxHeartbeats 1000000 in
theorem int_c (s : ByteArray) (w : World) (hs : s.size ≤ 9223372036854775807) : Calls Tryz.prog 167 #[.string s] w fun e w' => IntP s e ∧ w' = w := by
  have ht : Hid (∀ W : World, Calls Tryz.prog 198 #[.string s, .string ⟨#[45]⟩] W fun e w' => e = .returned (.string (dgF s)) ∧ w' = W) := fun W => Tryz.strings_TrimPrefix s ⟨#[45]⟩ W
  have hF : Hid (∀ r, intF s = r → ∀ e, e = .returned (.tuple #[.int .i64 (r.getD 0), .bool r.isSome]) → IntP s e) := by rintro r rfl e rfl; rfl
  have hU : Hid (intF s = if (dgF s).size < 1 ∨ 15 < (dgF s).size then none else
    match numGo (dgF s) 0 0 with
    | none => none
    | some n => if bt (dgF s) 0 = 48 ∧ s.toList ≠ [48] then none else some (if (dgF s).size < s.size then -n else n)) := rfl
  generalize dgF s = d at *
  generalize intF s = r at *
  go_enter Tryz.func167, Tryz.ntmps167
  by_cases h1 : d.size < 1 ∨ 15 < d.size
  · have hr : Hid (r = none) := by unfold Hid; rw [hU.out, if_pos h1]
    clear hU
    have hh : (1 ≤ d.size ∧ 15 < d.size) ∨ d.size < 1 := by omega
    clear h1
    rcases hh with ⟨h1, h2⟩ | h1
    all_goals
      go_wp2_with (go_at_call 198; refine (ht.out _).mono ?_; rintro e w' ⟨rfl, rfl⟩)
      go_ret2
      exact ⟨hF.out none hr.out _ rfl, rfl⟩
  · have h2 : 1 ≤ d.size := by omega
    have h3 : d.size ≤ 15 := by omega
    have hr : Hid (r = match numGo d 0 0 with
      | none => none
      | some n => if bt d 0 = 48 ∧ s.toList ≠ [48] then none else some (if d.size < s.size then -n else n)) := by unfold Hid; rw [hU.out, if_neg h1]
    clear h1 hU
    go_wp2_with (go_at_call 198; refine (ht.out _).mono ?_; rintro e w' ⟨rfl, rfl⟩)
    go_loop [5, 19] (fun nv iv => ∃ (k : Nat) (n : Int), k ≤ d.size ∧ iv = .int .i64 k ∧ nv = .int .i64 n ∧ Hid (numR k n) ∧ Hid (numGo d 0 0 = numGo d k n)) (fun _ i => d.size - (intOf i).toNat)
    case atStart => exact ⟨0, 0, Nat.zero_le _, rfl, rfl, numR_zero, rfl⟩
    case round =>
      obtain ⟨k, n, hk, rfl, rfl, hn, hg⟩ := hrel
      obtain ⟨hn0, hn1⟩ := numR_le hn.out (by omega)
      by_cases hlt : k < d.size
      · have bk := bt_at d k
        have hb := bt_range d k
        by_cases hd : 48 ≤ bt d k ∧ bt d k ≤ 57
        · have HG : Hid (numGo d 0 0 = numGo d (k + 1) (10 * n + (bt d k - 48))) := by unfold Hid; rw [hg.out, numGo_step d k n hlt hd]
          have HN : Hid (numR (k + 1) (10 * n + (bt d k - 48))) := numR_succ hn.out (by omega) (by omega)
          generalize bt d k = x at *
          obtain ⟨hx1, hx2⟩ := hd
          obtain ⟨hb0, hb1⟩ := hb
          clear hg hn
          go_wp2
          go_round
          case rel => exact ⟨k + 1, _, by omega, by go_num, rfl, HN, HG⟩
          case measure => simp [intOf]; try omega
        · have hr2 : Hid (r = none) := by unfold Hid; rw [hr.out, hg.out, numGo_bad d k n hlt hd]
          generalize bt d k = x at *
          obtain ⟨hb0, hb1⟩ := hb
          have hh : (48 ≤ x ∧ 57 < x) ∨ x < 48 := by omega
          clear hd hg hn hr
          rcases hh with ⟨hx1, hx2⟩ | hx1
          all_goals
            go_wp2
            go_ret2
            exact ⟨hF.out none hr2.out _ rfl, rfl⟩
      · have hr2 : Hid (r = if bt d 0 = 48 ∧ s.toList ≠ [48] then none else some (if d.size < s.size then -n else n)) := by unfold Hid; rw [hr.out, hg.out, numGo_end d k n hlt]
        have b0 := bt_at d 0
        generalize bt d 0 = x0 at *
        clear hg hn hr
        by_cases hx : x0 = 48
        · subst hx
          by_cases hs0 : s.toList = [48]
          · have hr3 : Hid (r = some (if d.size < s.size then -n else n)) := by unfold Hid; rw [hr2.out, if_neg (by simp [hs0])]
            clear hr2
            by_cases hm : d.size < s.size
            · have hr4 : Hid (r = some (-n)) := by unfold Hid; rw [hr3.out, if_pos hm]
              clear hr3
              go_wp2
              go_ret2
              exact ⟨hF.out _ hr4.out _ rfl, rfl⟩
            · have hr4 : Hid (r = some n) := by unfold Hid; rw [hr3.out, if_neg hm]
              clear hr3
              go_wp2
              go_ret2
              exact ⟨hF.out _ hr4.out _ rfl, rfl⟩
          · have hr3 : Hid (r = none) := by unfold Hid; rw [hr2.out, if_pos ⟨rfl, hs0⟩]
            have hs0' : (!s.toList == [48]) = true := by simp [hs0]
            clear hr2
            go_wp2
            go_ret2
            exact ⟨hF.out _ hr3.out _ rfl, rfl⟩
        · have hr3 : Hid (r = some (if d.size < s.size then -n else n)) := by unfold Hid; rw [hr2.out, if_neg (fun h => hx h.1)]
          have hx' : (x0 == 48) = false := by simpa using hx
          clear hr2 hx
          by_cases hm : d.size < s.size
          · have hr4 : Hid (r = some (-n)) := by unfold Hid; rw [hr3.out, if_pos hm]
            clear hr3
            go_wp2
            go_ret2
            exact ⟨hF.out _ hr4.out _ rfl, rfl⟩
          · have hr4 : Hid (r = some n) := by unfold Hid; rw [hr3.out, if_neg hm]
            clear hr3
            go_wp2
            go_ret2
            exact ⟨hF.out _ hr4.out _ rfl, rfl⟩
end Go.Proofs.YtldnkeackphilaaGreatDoor
/- The shelf's contracts that are used here, laid by the kit's tools lay-shelf.mjs and lay-plain.mjs; cut by trim.py. -/
namespace Go.Proofs
open Go.Shelf
end Go.Proofs
/- slices.Sort and slices.Compact on rows of the call's own. -/
namespace Go.Proofs.YtldnkeackphilaaGreatDoor
open Go.RowKit Go.Sort

def sortedI (xs : List Int) : List Int := xs.mergeSort fun x y => decide (x ≤ y)
/-- Texts as lists of bytes. -/
def bytesL (xs : List ByteArray) : List (List UInt8) := xs.map (·.data.toList)
def textsL (xs : List (List UInt8)) : List ByteArray := xs.map fun l => ⟨l.toArray⟩
def sortedS (xs : List ByteArray) : List ByteArray := textsL ((bytesL xs).mergeSort fun x y => decide (x ≤ y))
def compactS (xs : List ByteArray) : List ByteArray := textsL (Lib.compact (bytesL xs))
end Go.Proofs.YtldnkeackphilaaGreatDoor
