/- The linear calculus: what an operation is worth that only reads. -/
import Derived.Test.YtldnkeackphilaaGreatDoorNs8
set_option linter.unusedSimpArgs false
set_option linter.unusedVariables false
namespace Go.Proofs.YtldnkeackphilaaGreatDoor.X
open Go.RowKit

def constX : Value → AV
  | .slice none 0 0 => .nl
  | v => .imm v
def constAX : Value → AV
  | .agg vs => .agg (vs.toList.map constX)
  | .tuple vs => if vs.size = 0 then .tup [] else .dead
  | v => constX v
def unC' : AV → AV
  | .cnd _ a => a
  | a => a
def okV (y : Bool) : AV → Prop
  | .cnd y' _ => y = true → y' = true
  | .dead => False
  | _ => True
def St.get (st : St) : Operand → AV
  | .tmp t => unC' (st.val t)
  | .const v => constAX v
  | .global g => .imm (.pointer (some ⟨g, 0, none⟩))
  | .func f => .imm (.func (.func f) #[] #[])
def St.ok (st : St) (y : Bool) : Operand → Prop
  | .tmp t => okV y (st.val t)
  | .const v => v.oneCell' = true ∨ ∃ vs, v = .agg vs ∧ vs.all (·.oneCell') = true
  | _ => True
theorem rn_cell {G : Gh} {ν : Nu} {v : Value} (h : v.oneCell' = true) : RN G ν v (constX v) := by
  unfold constX
  split
  · exact .nl
  · exact .sh (.imm v h)
theorem constX_one {v : Value} (h : v.oneCell' = true) : constAX v = constX v := by
  cases v <;> first | rfl | cases h
theorem rn_const {G : Gh} {ν : Nu} {v : Value} (h : v.oneCell' = true ∨ ∃ vs, v = .agg vs ∧ vs.all (·.oneCell') = true) : RN G ν v (constAX v) := by
  rcases h with h | ⟨vs, rfl, h⟩
  · rw [constX_one h]; exact rn_cell h
  · have h' : ∀ (j : Nat) (v : Value), vs[j]? = some v → v.oneCell' = true := fun j v hj => (Array.all_eq_true_iff_forall_mem.1 h) v (Array.mem_of_getElem? hj)
    refine .agg vs _ (by simp) h' fun j v a hv ha => ?_
    have : a = constX v := by
      rw [List.getElem?_map, Array.getElem?_toList, hv] at ha
      simpa using ha.symm
    subst this
    exact rn_cell (h' j v hv)
section
variable {P : Program} {N : Nat} {C : Cx} {G : Gh} {ν : Nu} {w : World} {st : St}
theorem get_sound {a : Act} (h : Inv P N C G ν w a.tmps st) {y : Bool} (hy : y = true) {x : Operand} (hx : st.ok y x) : RN G ν (a.eval x) (st.get x) := by
  cases x with
  | tmp t =>
    have hv := h.vals t
    have hE : a.eval (.tmp t) = a.tmps.getD t undef := rfl
    rw [hE]
    simp only [St.ok] at hx
    simp only [St.get]
    generalize a.tmps.getD t undef = v at hv
    generalize st.val t = A at hv hx
    cases hv with
    | x h =>
      cases A <;> first | exact h | exact h.cndI.elim
    | cnd y' v A h1 h2 => exact h1 (hx hy)
    | dead => exact hx.elim
  | const v => exact rn_const hx
  | global g => exact .sh (.imm _ rfl)
  | func f => exact .sh (.imm _ rfl)
def LiesN (G : Gh) (ν : Nu) (w : World) (g o : Nat) (cs : List AV) : Prop := ∀ (j : Nat) a, cs[j]? = some a → ∃ v, w.cell? ⟨g, o + j, none⟩ = some v ∧ v.oneCell' = true ∧ RN G ν v a
def atB (off : Nat) : Option Blk → List AV
  | some (.box _ cs) => cs.drop off
  | _ => []
def atE (i j : Nat) : Option Blk → List AV
  | some (.row _ es) => (es.getD i []).drop j
  | _ => []
def St.at (st : St) : AV → List AV
  | .ref n off => atB off (st.blk n)
  | .elt n i j => atE i j (st.blk n)
  | .ptr cs => cs
  | _ => []
def atBC : Option Blk → Prop
  | some (.box _ _) => True
  | _ => False
def atEC (y : Bool) (i : Nat) : Option Blk → Prop
  | some (.row _ es) => y = true → i < es.length
  | _ => False
def St.atC (st : St) (y : Bool) : AV → Prop
  | .ref n _ => atBC (st.blk n)
  | .elt n i _ => atEC y i (st.blk n)
  | .ptr _ => True
  | _ => False
theorem at_sound {tm : Array Value} (h : Inv P N C G ν w tm st) {v : Value} {a : AV} (hv : RN G ν v a) (hc : st.atC true a) : ∃ g o, v = .pointer (some ⟨g, o, none⟩) ∧ LiesN G ν w g o (st.at a) := by
  cases a <;> first | exact hc.elim | skip
  · next cs =>
    obtain ⟨g, o, rfl, hg⟩ := hv.ptrI
    refine ⟨g, o, rfl, fun j b hj => ?_⟩
    obtain ⟨u, h1, h2, h3⟩ := h.cells _ _ _ (hg j b hj)
    exact ⟨u, h1, h2, .sh h3⟩
  · next n off =>
    obtain ⟨g, cap, sz, hn, rfl⟩ := hv.refI
    simp only [St.atC] at hc
    simp only [St.at]
    cases hb : st.blk n with
    | none => rw [hb] at hc; exact hc.elim
    | some B =>
      cases B with
      | row E es => rw [hb] at hc; exact hc.elim
      | box T cs =>
        obtain ⟨g', cap', sz', h1, h2, vs, h3, h4, h5⟩ := h.blks n _ hb
        rw [hn] at h1
        cases h1
        refine ⟨g, off, rfl, fun j b hj => ?_⟩
        have hj : cs[off + j]? = some b := by simpa [atB, List.getElem?_drop] using hj
        have hlt : off + j < vs.size := by rw [h4]; exact (List.getElem?_eq_some_iff.1 hj).1
        obtain ⟨k1, k2⟩ := h5 _ _ b (Array.getElem?_eq_getElem hlt) hj
        exact ⟨_, by rw [cell_of_row _ _ _ _ _ _ h3]; exact Array.getElem?_eq_getElem hlt, k1, k2⟩
  · next n i k =>
    obtain ⟨g, cap, sz, hn, rfl⟩ := hv.eltI
    simp only [St.atC] at hc
    simp only [St.at]
    cases hb : st.blk n with
    | none => rw [hb] at hc; exact hc.elim
    | some B =>
      cases B with
      | box T cs => rw [hb] at hc; exact hc.elim
      | row E es =>
        rw [hb] at hc
        have hi : i < es.length := hc rfl
        obtain ⟨h0, hr⟩ := h.blks n _ hb
        rcases hr with ⟨cap', h1, _⟩ | ⟨g', cap', h1, h2, h3, h4, vs, h5, h6, h7⟩
        · rw [hn] at h1; cases h1
        rw [hn] at h1
        cases h1
        refine ⟨g, _, rfl, fun j b hj => ?_⟩
        have hgi : es[i]? = some es[i] := List.getElem?_eq_getElem hi
        have hj : es[i][k + j]? = some b := by simpa [atE, List.getD_eq_getElem?_getD, hgi, List.getElem?_drop] using hj
        have hfl := flat_get h0 hgi hj
        have hlt : i * szP P E + (k + j) < vs.size := by
          have := (List.getElem?_eq_some_iff.1 hfl).1
          rw [flat_len h0] at this
          rw [h6]
          exact Nat.lt_of_lt_of_le this (Nat.mul_le_mul_right _ h3)
        obtain ⟨k1, k2⟩ := h7 _ _ b (Array.getElem?_eq_getElem hlt) hfl
        exact ⟨_, by rw [Nat.add_assoc, cell_of_row _ _ _ _ _ _ h5]; exact Array.getElem?_eq_getElem hlt, k1, .sh k2⟩
theorem run_ldN {g o : Nat} {cs : List AV} (hl : LiesN G ν w g o cs) {T : TypeId} (hc : ldC P T cs) : ∃ v, (Instr.loadAt T (.pointer (some ⟨g, o, none⟩))).run P w = .ok v w ∧ RN G ν v (ldA P T cs) := by
  unfold ldC at hc
  unfold ldA
  by_cases hR : isRowT P T = true
  · rw [if_pos hR] at hc
    simp only [hR, if_true]
    obtain ⟨hi, hsz⟩ := hc
    obtain ⟨d, hu, hd⟩ : ∃ d, P.underlying T = some d ∧ d.isRow = true := by
      unfold isRowT at hR
      split at hR <;> first | exact ⟨_, ‹_›, rfl⟩ | cases hR
    let us : List Value := (List.range (szP P T)).map fun j => (w.cell? ⟨g, o + j, none⟩).getD undef
    have hus : ∀ (j : Nat), j < szP P T → ∃ v a, us[j]? = some v ∧ cs[j]? = some a ∧ w.cell? ⟨g, o + j, none⟩ = some v ∧ v.oneCell' = true ∧ RN G ν v a := by
      intro j hj
      have hj' : j < cs.length := by omega
      obtain ⟨v, h1, h2, h3⟩ := hl j _ (List.getElem?_eq_getElem hj')
      exact ⟨v, _, by simp [us, hj, h1], List.getElem?_eq_getElem hj', h1, h2, h3⟩
    have hlen : us.length = szP P T := by simp [us]
    have hr := run_loadAt_mid (P := P) w g o T us d (fun j v hv => by
      have hj : j < szP P T := by rw [← hlen]; exact (List.getElem?_eq_some_iff.1 hv).1
      obtain ⟨v', a, h1, h2, h3, _⟩ := hus j hj
      rw [h1] at hv
      cases hv
      exact h3) hu hd (by
      obtain ⟨i, hi⟩ := Option.isSome_iff_exists.1 hi
      simp [hi, hlen, szP])
    refine ⟨_, hr, .agg _ _ (by simp [hlen]; omega) (fun j v hv => ?_) (fun j v a hv ha => ?_)⟩
    · have hv : us[j]? = some v := by simpa using hv
      have hj : j < szP P T := by rw [← hlen]; exact (List.getElem?_eq_some_iff.1 hv).1
      obtain ⟨v', a, h1, h2, h3, h4, _⟩ := hus j hj
      rw [h1] at hv
      cases hv
      exact h4
    · have hv : us[j]? = some v := by simpa using hv
      have hj : j < szP P T := by rw [← hlen]; exact (List.getElem?_eq_some_iff.1 hv).1
      obtain ⟨v', a', h1, h2, h3, h4, h5⟩ := hus j hj
      rw [h1] at hv
      cases hv
      rw [List.getElem?_take_of_lt hj, h2] at ha
      cases ha
      exact h5
  · rw [if_neg hR] at hc
    have hR' : isRowT P T = false := by simpa using hR
    simp only [hR', Bool.false_eq_true, if_false]
    obtain ⟨hu, h0⟩ := hc
    rcases cs with _ | ⟨c, cs⟩
    · simp at h0
    · obtain ⟨v, h1, h2, h3⟩ := hl 0 c rfl
      rw [Nat.add_zero] at h1
      refine ⟨v, ?_, h3⟩
      simp only [Instr.loadAt, Instr.sureAddr, Sem.run_bind, Sem.run_pure, Result.andThen_ok, loadVar, run_isRow w hu, hR', Bool.false_eq_true, if_false, run_load, h1]
theorem run_partN {vs : Array Value} {cs : List AV} (hv : RN G ν (.agg vs) (.agg cs)) {T : TypeId} {off : Nat} (hc : ldC P T (cs.drop off)) : ∃ v, (part T vs off).run P w = .ok v w ∧ RN G ν v (ldA P T (cs.drop off)) := by
  obtain ⟨vs', e, hl, h1, h⟩ := hv.aggI
  cases e
  unfold ldC at hc
  unfold ldA
  by_cases hR : isRowT P T = true
  · rw [if_pos hR] at hc ⊢
    obtain ⟨hi, hsz⟩ := hc
    obtain ⟨i, hi⟩ := Option.isSome_iff_exists.1 hi
    have hs : szP P T = i.size := by simp [szP, hi]
    have hu : (P.underlying T).isSome = true := by
      unfold isRowT at hR
      split at hR <;> first | (rename_i e; rw [e]; rfl) | cases hR
    simp only [List.length_drop] at hsz
    refine ⟨.agg (vs.extract off (off + i.size)), by simp [part, run_isRow w hu, hR, sizeOf, typeInfo, hi], .agg _ _ (by simp; omega) (fun j v hj => ?_) fun j v a hj ha => ?_⟩
    · rw [Array.getElem?_extract] at hj
      split at hj
      · exact h1 _ v hj
      · cases hj
    · rw [Array.getElem?_extract] at hj
      split at hj
      · next hlt =>
        rw [List.getElem?_take_of_lt (by omega), List.getElem?_drop] at ha
        exact h _ v a hj ha
      · cases hj
  · rw [if_neg hR] at hc ⊢
    obtain ⟨hu, h0⟩ := hc
    simp only [List.length_drop] at h0
    have hR' : isRowT P T = false := by simpa using hR
    have hv : vs[off]? = some vs[off] := Array.getElem?_eq_getElem (by omega)
    refine ⟨vs[off], by simp only [part, Sem.run_bind, run_isRow w hu, hR', Result.andThen_ok, Bool.false_eq_true, if_false, hv, Sem.run_pure], ?_⟩
    have ha : cs[off]? = some cs[off] := List.getElem?_eq_getElem (by omega)
    have e : (cs.drop off).headD .dead = cs[off] := by
      rw [List.drop_eq_getElem_cons (by omega)]; rfl
    rw [e]
    exact h off _ _ hv ha
theorem run_eq1N {t : TypeId} {a b : AV} {u v : Value} (hc : eq1C P t a b) (hu : RN G ν u a) (hv : RN G ν v b) (d : Nat) : (Op.equalIn (d + 1) t u v).run P w = .ok (eqV a b) w ∧ isRowT P t = false ∧ (P.underlying t).isSome = true := by
  unfold eq1C at hc
  split at hc
  · exact run_eq1 (P := P) (w := w) (t := t) (a := .imm (.int _ _)) (b := .imm (.int _ _)) (G := G) hc (by rw [hu.immI.1]; exact .imm _ rfl) (by rw [hv.immI.1]; exact .imm _ rfl) d
  · exact run_eq1 (P := P) (w := w) (t := t) (a := .imm (.bool _)) (b := .imm (.bool _)) (G := G) hc (by rw [hu.immI.1]; exact .imm _ rfl) (by rw [hv.immI.1]; exact .imm _ rfl) d
  · exact run_eq1 (P := P) (w := w) (t := t) (a := .imm (.string _)) (b := .imm (.string _)) (G := G) hc (by rw [hu.immI.1]; exact .imm _ rfl) (by rw [hv.immI.1]; exact .imm _ rfl) d
  · exact hc.elim
theorem run_eqFieldsN {xs ys : Array Value} {as bs : List AV} (hx : RN G ν (.agg xs) (.agg as)) (hy : RN G ν (.agg ys) (.agg bs)) (d : Nat) : ∀ (fs : List Field) (j : Nat), fldOk j fs = true → eqFC P (fs.map (·.type)) (as.drop j) (bs.drop j) →
    (Op.eqFields (d + 1) xs ys fs).run P w = .ok (eqCs (as.drop j) (bs.drop j)) w
  | [], j, _, hc => by
    generalize as.drop j = A at hc ⊢
    generalize bs.drop j = B at hc ⊢
    cases A with
    | nil => rfl
    | cons a A => cases B <;> exact hc.elim
  | f :: fs, j, hf, hc => by
    simp only [fldOk, Bool.and_eq_true, bne_iff_ne, ne_eq, beq_iff_eq] at hf
    obtain ⟨⟨h1, h2⟩, h3⟩ := hf
    have ha : as.drop j ≠ [] := fun e => by
      simp only [e, List.map_cons] at hc
      generalize bs.drop j = B at hc
      cases B <;> exact hc.elim
    have hb : bs.drop j ≠ [] := fun e => by
      simp only [e, List.map_cons] at hc
      generalize as.drop j = A at hc
      cases A <;> exact hc.elim
    have hja : j < as.length := by
      apply Nat.lt_of_not_le
      intro hle
      exact ha (List.drop_eq_nil_of_le hle)
    have hjb : j < bs.length := by
      apply Nat.lt_of_not_le
      intro hle
      exact hb (List.drop_eq_nil_of_le hle)
    have ea : as.drop j = as[j] :: as.drop (j + 1) := List.drop_eq_getElem_cons hja
    have eb : bs.drop j = bs[j] :: bs.drop (j + 1) := List.drop_eq_getElem_cons hjb
    rw [ea, eb] at hc
    obtain ⟨hc1, hc2⟩ : eq1C P f.type as[j] bs[j] ∧ eqFC P (fs.map (·.type)) (as.drop (j + 1)) (bs.drop (j + 1)) := hc
    obtain ⟨hr, hu⟩ := eq1_row hc1
    have ldC' : ∀ cs : List AV, j < cs.length → ldC P f.type (cs.drop j) := fun cs hj => by
      unfold ldC
      rw [hr]
      simp only [Bool.false_eq_true, if_false]
      exact ⟨hu, by simp only [List.length_drop]; omega⟩
    have ldA' : ∀ (cs : List AV) (hj : j < cs.length), ldA P f.type (cs.drop j) = cs[j] := fun cs hj => by
      unfold ldA
      rw [hr, List.drop_eq_getElem_cons hj]
      rfl
    obtain ⟨u, u1, u2⟩ := run_partN (P := P) (w := w) hx (ldC' as hja)
    obtain ⟨v, v1, v2⟩ := run_partN (P := P) (w := w) hy (ldC' bs hjb)
    rw [ldA' as hja] at u2
    rw [ldA' bs hjb] at v2
    have he := (run_eq1N (w := w) hc1 u2 v2 d).1
    have ih := run_eqFieldsN hx hy d fs (j + 1) h3 hc2
    rw [ea, eb]
    simp only [Op.eqFields, h2, ne_eq, h1, not_false_eq_true, if_true, Sem.run_bind, u1, v1, Result.andThen_ok, he, eqCs]
    cases eqV as[j] bs[j]
    · rfl
    · simp only [Bool.not_true, Bool.false_eq_true, if_false, Bool.true_and]
      exact ih
theorem run_aggEqN {T : TypeId} {xs ys : Array Value} {as bs : List AV} (hx : RN G ν (.agg xs) (.agg as)) (hy : RN G ν (.agg ys) (.agg bs)) (ht : eqTP P T = true) (hc : eqFC P (typsP P T) as bs) (op : BinOp) (x y : Operand) :
    (Op.equal T (.agg xs) (.agg ys)).run P w = .ok (eqCs as bs) w ∧ (eqGuard op T x y (.agg xs) (.agg ys)).run P w = .ok () w := by
  unfold eqTP at ht
  simp only [Bool.and_eq_true, Bool.not_eq_true'] at ht
  obtain ⟨⟨h1, h2⟩, h3⟩ := ht
  split at h1
  · next fs hu =>
    have hfs : P.fieldsOf T = fs := by simp [Program.fieldsOf, hu]
    constructor
    · have e : Op.equal T (.agg xs) (.agg ys) = Op.equalIn (9999 + 1) T (.agg xs) (.agg ys) := rfl
      rw [e, run_equalIn_struct w 9999 T xs ys (by rw [hfs]; exact hu) h2]
      exact run_eqFieldsN hx hy 9998 (P.fieldsOf T).toList 0 (by rw [hfs]; exact h1) hc
    · cases op <;> simp [eqGuard, run_program, h3]
  · cases h1
def binX (op : BinOp) : AV → AV → AV
  | .elt _ _ _, .imm (.pointer none) => eqlA op false
  | a, b => binA op a b
def binXC (P : Program) (op : BinOp) (T : TypeId) (cst : Bool) : AV → AV → Prop
  | .elt _ _ _, .imm (.pointer none) => eqlC op ∧ isPtrT P T
  | a, b => binC P op T cst a b
theorem run_eqlN {op : BinOp} {T : TypeId} {x y : Operand} {u v : Value} {b : Bool} (hc : eqlC op) (hg : (eqGuard op T x y u v).run P w = .ok () w) (h1 : binOp .eql T u v = (do pure (.bool (← Op.equal T u v)))) (h2 : binOp .neq T u v = (do pure (.bool (!(← Op.equal T u v))))) (hE : (Op.equal T u v).run P w = .ok b w) :
    ∃ z, (do eqGuard op T x y u v; binOp op T u v : Sem Value).run P w = .ok z w ∧ RN G ν z (eqlA op b) := by
  cases op <;> first
    | exact hc.elim
    | (refine ⟨.bool b, ?_, .sh (.imm _ rfl)⟩; rw [Sem.run_bind, hg, Result.andThen_ok, h1, Sem.run_bind, hE]; rfl)
    | (refine ⟨.bool (!b), ?_, .sh (.imm _ rfl)⟩; rw [Sem.run_bind, hg, Result.andThen_ok, h2, Sem.run_bind, hE]; rfl)
theorem run_binN {op : BinOp} {T : TypeId} {x y : Operand} {a b : AV} {u v : Value} (hu : RN G ν u a) (hv : RN G ν v b) (hc : binC P op T (isConstO x || isConstO y) a b) :
    ∃ z, (do eqGuard op T x y u v; binOp op T u v : Sem Value).run P w = .ok z w ∧ RN G ν z (binA op a b) := by
  unfold binC at hc
  split at hc
  · obtain ⟨xs, rfl, -⟩ := id hu.aggI
    obtain ⟨ys, rfl, -⟩ := id hv.aggI
    obtain ⟨h1, h2⟩ := run_aggEqN (w := w) hu hv hc.2.1 hc.2.2 op x y
    exact run_eqlN hc.1 h2 rfl rfl h1
  · obtain ⟨rfl, _⟩ := hu.immI
    obtain ⟨rfl, _⟩ := hv.immI
    obtain ⟨rfl, hc⟩ := hc
    cases op <;> simp only [intC] at hc <;> first
      | exact hc.elim
      | (refine ⟨_, ?_, .sh (.imm _ rfl)⟩; simp [eqGuard, binOp, Op.intArith, Op.intDiv, Op.intBits, Op.intCmp, hc])
  · obtain ⟨rfl, _⟩ := hu.immI
    obtain ⟨rfl, _⟩ := hv.immI
    have hmx : (IntKind.i64.max : Int) = 9223372036854775807 := by decide
    cases op <;> simp only [strC] at hc <;> first
      | exact hc.elim
      | (refine ⟨_, ?_, .sh (.imm _ rfl)⟩; simp [eqGuard, binOp, Op.stringOp, hmx]; done)
      | (refine ⟨_, ?_, .sh (.imm _ rfl)⟩; simp [eqGuard, binOp, Op.stringOp, hmx]; omega)
  · obtain ⟨rfl, _⟩ := hu.immI
    obtain ⟨rfl, _⟩ := hv.immI
    exact run_eqlN hc.1 (guard_bool _ _ _ _ _ _ _ _) rfl rfl (equal_bool hc.2 _ _ w)
  · obtain ⟨rfl, _⟩ := hu.immI
    obtain ⟨rfl, _⟩ := hv.immI
    exact run_eqlN hc.1 (guard_ptr _ _ _ _ _ _ _ _) rfl rfl (equal_ptr hc.2 _ w)
  · obtain ⟨g, o, rfl, _⟩ := hu.ptrI
    obtain ⟨rfl, _⟩ := hv.immI
    exact run_eqlN hc.1 (guard_ptr _ _ _ _ _ _ _ _) rfl rfl (equal_ptr hc.2 _ w)
  · obtain ⟨g, cap, sz, _, rfl⟩ := hu.refI
    obtain ⟨rfl, _⟩ := hv.immI
    exact run_eqlN hc.1 (guard_ptr _ _ _ _ _ _ _ _) rfl rfl (equal_ptr hc.2 _ w)
  · obtain ⟨rfl, _⟩ := hu.immI
    obtain ⟨rfl, _⟩ := hv.immI
    exact run_eqlN hc.1 (guard_nil _ _ _ _ hc.2.2 _ _) rfl rfl (equal_ifc hc.2.1 w).1
  · obtain ⟨z, rfl, _⟩ := hu.ifcI
    obtain ⟨rfl, _⟩ := hv.immI
    exact run_eqlN hc.1 (guard_ifc _ _ _ _ _ _ _ _) rfl rfl ((equal_ifc hc.2 w).2 _ _)
  · exact hc.elim
theorem run_binX {op : BinOp} {T : TypeId} {x y : Operand} {a b : AV} {u v : Value} (hu : RN G ν u a) (hv : RN G ν v b) (hc : binXC P op T (isConstO x || isConstO y) a b) :
    ∃ z, (do eqGuard op T x y u v; binOp op T u v : Sem Value).run P w = .ok z w ∧ RN G ν z (binX op a b) := by
  unfold binXC at hc
  split at hc
  · obtain ⟨g, cap, sz, _, rfl⟩ := hu.eltI
    obtain ⟨rfl, _⟩ := hv.immI
    exact run_eqlN hc.1 (guard_ptr _ _ _ _ _ _ _ _) rfl rfl (equal_ptr hc.2 _ w)
  · next hne =>
    have e : binX op a b = binA op a b := by
      unfold binX
      split
      · exact absurd rfl (hne _ _ _ rfl)
      · rfl
    rw [e]
    exact run_binN hu hv hc
end
end Go.Proofs.YtldnkeackphilaaGreatDoor.X
