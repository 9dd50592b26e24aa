/- The calculus of values: operations that only read, what each is worth and what it asks. -/
import Derived.Test.YtldnkeackphilaaGreatDoorNs2
set_option linter.unusedSimpArgs false
set_option linter.unusedVariables false
namespace Go.Proofs.YtldnkeackphilaaGreatDoor
open Go.RowKit

def isRowT (P : Program) (T : TypeId) : Bool := match P.underlying T with
  | some (.struct _) => true
  | some (.array _ _) => true
  | _ => false
def ldA (P : Program) (T : TypeId) (cs : List AV) : AV := if isRowT P T then .agg (cs.take (szP P T)) else cs.headD .dead
def ldC (P : Program) (T : TypeId) (cs : List AV) : Prop := if isRowT P T then (P.info? T).isSome = true ∧ szP P T ≤ cs.length else (P.underlying T).isSome = true ∧ 0 < cs.length
def intA (op : BinOp) (k : IntKind) (x y : Int) : AV := match op with
  | .add => .imm (.int k (k.wrap (x + y)))
  | .sub => .imm (.int k (k.wrap (x - y)))
  | .mul => .imm (.int k (k.wrap (x * y)))
  | .quo => .imm (.int k (k.wrap (x.tdiv y)))
  | .rem => .imm (.int k (x.tmod y))
  | .and => .imm (.int k (k.wrap (BitVec.ofInt k.bits x &&& BitVec.ofInt k.bits y).toNat))
  | .or => .imm (.int k (k.wrap (BitVec.ofInt k.bits x ||| BitVec.ofInt k.bits y).toNat))
  | .xor => .imm (.int k (k.wrap (BitVec.ofInt k.bits x ^^^ BitVec.ofInt k.bits y).toNat))
  | .eql => .imm (.bool (x == y))
  | .neq => .imm (.bool (x != y))
  | .lss => .imm (.bool (decide (x < y)))
  | .leq => .imm (.bool (decide (x ≤ y)))
  | .gtr => .imm (.bool (decide (x > y)))
  | .geq => .imm (.bool (decide (x ≥ y)))
  | _ => .dead
def intC (op : BinOp) (y : Int) : Prop := match op with
  | .shl | .shr | .andNot => False
  | .quo | .rem => y ≠ 0
  | _ => True
def strA (op : BinOp) (x y : ByteArray) : AV := match op with
  | .add => .imm (.string (x ++ y))
  | .eql => .imm (.bool (x.toList == y.toList))
  | .neq => .imm (.bool (!(x.toList == y.toList)))
  | .lss => .imm (.bool (Op.bytesLess x.toList y.toList))
  | .leq => .imm (.bool (Op.bytesLess x.toList y.toList || x.toList == y.toList))
  | .gtr => .imm (.bool (!(Op.bytesLess x.toList y.toList || x.toList == y.toList)))
  | .geq => .imm (.bool (!(Op.bytesLess x.toList y.toList)))
  | _ => .dead
def strC (op : BinOp) (x y : ByteArray) : Prop := match op with
  | .add => x.size + y.size ≤ 9223372036854775807
  | .eql | .neq | .lss | .leq | .gtr | .geq => True
  | _ => False
def eqlA (op : BinOp) (b : Bool) : AV := match op with
  | .eql => .imm (.bool b)
  | .neq => .imm (.bool (!b))
  | _ => .dead
def eqlC (op : BinOp) : Prop := match op with
  | .eql | .neq => True
  | _ => False
def isConstO : Operand → Bool
  | .const _ => true
  | _ => false
def kindP (P : Program) (T : TypeId) : Option IntKind := match P.underlying T with
  | some (.int k) => some k
  | _ => none
def strP (P : Program) (T : TypeId) : Bool := match P.underlying T with
  | some .string => true
  | _ => false
def boolP (P : Program) (T : TypeId) : Bool := match P.underlying T with
  | some .bool => true
  | _ => false
def eqV : AV → AV → Bool
  | .imm (.int _ x), .imm (.int _ y) => x == y
  | .imm (.bool x), .imm (.bool y) => x == y
  | .imm (.string x), .imm (.string y) => x.toList == y.toList
  | _, _ => false
def eqCs : List AV → List AV → Bool
  | a :: as, b :: bs => eqV a b && eqCs as bs
  | _, _ => true
def eq1C (P : Program) (t : TypeId) : AV → AV → Prop
  | .imm (.int k _), .imm (.int k' _) => (kindP P t).isSome = true ∧ k = k'
  | .imm (.bool _), .imm (.bool _) => boolP P t = true
  | .imm (.string _), .imm (.string _) => strP P t = true
  | _, _ => False
def eqFC (P : Program) : List TypeId → List AV → List AV → Prop
  | [], [], [] => True
  | t :: ts, a :: as, b :: bs => eq1C P t a b ∧ eqFC P ts as bs
  | _, _, _ => False
def fldOk : Nat → List Field → Bool
  | _, [] => true
  | j, f :: fs => f.name != "_" && f.offset == j && fldOk (j + 1) fs
def eqTP (P : Program) (T : TypeId) : Bool := (match P.underlying T with
  | some (.struct fs) => fldOk 0 fs.toList
  | _ => false) && !P.stoodInHeld T && !P.eqGuardType P.depth T
def typsP (P : Program) (T : TypeId) : List TypeId := (P.fieldsOf T).toList.map (·.type)
def binA (op : BinOp) : AV → AV → AV
  | .agg as, .agg bs => eqlA op (eqCs as bs)
  | .imm (.int k x), .imm (.int _ y) => intA op k x y
  | .imm (.string x), .imm (.string y) => strA op x y
  | .imm (.bool x), .imm (.bool y) => eqlA op (x == y)
  | .imm (.pointer none), .imm (.pointer none) => eqlA op true
  | .ptr _, .imm (.pointer none) => eqlA op false
  | .ref _ _, .imm (.pointer none) => eqlA op false
  | .imm .nilIface, .imm .nilIface => eqlA op true
  | .ifc _ _, .imm .nilIface => eqlA op false
  | _, _ => .dead
def isPtrT (P : Program) (T : TypeId) : Prop := match P.underlying T with
  | some (.pointer _) => True
  | _ => False
def isIfcT (P : Program) (T : TypeId) : Prop := match P.underlying T with
  | some (.interface _) => True
  | _ => False
def isBoolT (P : Program) (T : TypeId) : Prop := match P.underlying T with
  | some .bool => True
  | _ => False
def binC (P : Program) (op : BinOp) (T : TypeId) (cst : Bool) : AV → AV → Prop
  | .agg as, .agg bs => eqlC op ∧ eqTP P T = true ∧ eqFC P (typsP P T) as bs
  | .imm (.int k _), .imm (.int k' y) => k = k' ∧ intC op y
  | .imm (.string x), .imm (.string y) => strC op x y
  | .imm (.bool _), .imm (.bool _) => eqlC op ∧ isBoolT P T
  | .imm (.pointer none), .imm (.pointer none) => eqlC op ∧ isPtrT P T
  | .ptr _, .imm (.pointer none) => eqlC op ∧ isPtrT P T
  | .ref _ _, .imm (.pointer none) => eqlC op ∧ isPtrT P T
  | .imm .nilIface, .imm .nilIface => eqlC op ∧ isIfcT P T ∧ cst = true
  | .ifc _ _, .imm .nilIface => eqlC op ∧ isIfcT P T
  | _, _ => False

theorem RX.imm {G : Gh} {tm : Array Value} {vl : Nat → AV} {v x : Value} (h : RX G tm vl v (.imm x)) : v = x ∧ x.oneCell' = true := by
  rcases h with h | ⟨r, off, g, T, cs, h, _⟩
  · cases h with
    | imm v h => exact ⟨rfl, h⟩
  · cases h
theorem RX.ptr {G : Gh} {tm : Array Value} {vl : Nat → AV} {v : Value} {cs : List AV} (h : RX G tm vl v (.ptr cs)) : ∃ g o, v = .pointer (some ⟨g, o, none⟩) ∧ ∀ (j : Nat) a, cs[j]? = some a → G g (o + j) a := by
  rcases h with h | ⟨r, off, g, T, cs, h, _⟩
  · cases h with
    | ptr g o cs h => exact ⟨g, o, rfl, h⟩
  · cases h
theorem RX.ref {G : Gh} {tm : Array Value} {vl : Nat → AV} {v : Value} {r off : Nat} (h : RX G tm vl v (.ref r off)) : ∃ g T cs, v = .pointer (some ⟨g, off, none⟩) ∧ tm.getD r undef = .pointer (some ⟨g, 0, none⟩) ∧ vl r = .box T cs := by
  rcases h with h | ⟨r', off', g, T, cs, h, h1, h2, h3⟩
  · cases h
  · cases h
    exact ⟨g, T, cs, h1, h2, h3⟩
theorem RX.ifc {G : Gh} {tm : Array Value} {vl : Nat → AV} {v : Value} {t : TypeId} {a : AV} (h : RX G tm vl v (.ifc t a)) : ∃ u, v = .iface t u ∧ RS G u a := by
  rcases h with h | ⟨r, off, g, T, cs, h, _⟩
  · cases h with
    | ifc t v a h => exact ⟨v, rfl, h⟩
  · cases h
theorem RX.sl {G : Gh} {tm : Array Value} {vl : Nat → AV} {v : Value} {es : List (List AV)} (h : RX G tm vl v (.sl es)) : RS G v (.sl es) := h.rs rfl
def Lies (G : Gh) (w : World) (g o : Nat) (cs : List AV) : Prop := ∀ (j : Nat) a, cs[j]? = some a → ∃ v, w.cell? ⟨g, o + j, none⟩ = some v ∧ v.oneCell' = true ∧ RS G v a
theorem lies_ptr {G : Gh} {w : World} (hc : CellsR G w) {g o : Nat} {cs : List AV} (h : ∀ (j : Nat) a, cs[j]? = some a → G g (o + j) a) : Lies G w g o cs := fun j a hj => hc _ _ _ (h j a hj)
theorem lies_drop {G : Gh} {w : World} {g o n : Nat} {cs : List AV} (h : Lies G w g o cs) : Lies G w g (o + n) (cs.drop n) := fun j a hj => by
  rw [List.getElem?_drop] at hj
  rw [Nat.add_assoc]
  exact h _ a hj
theorem lies_box {P : Program} {N : Nat} {G : Gh} {O : Om} {w : World} {tm : Array Value} {st : St} (h : Rl P N G O w tm st) {r g : Nat} {T : TypeId} {cs : List AV} (hr : st.val r = .box T cs) (hp : tm.getD r undef = .pointer (some ⟨g, 0, none⟩)) : Lies G w g 0 cs := by
  have hv := h.vals r
  rw [hr, hp] at hv
  cases hv with
  | sh h => cases h
  | box g T cs vs ho hg hh hl hc =>
    intro j a hj
    have hlt : j < vs.size := by rw [hl]; exact (List.getElem?_eq_some_iff.1 hj).1
    have hcell : w.cell? ⟨g, 0 + j, none⟩ = vs[j]? := by rw [Nat.zero_add, cell_of_row _ _ _ _ _ _ hh]
    rw [Array.getElem?_eq_getElem hlt] at hcell
    obtain ⟨h1, h2⟩ := hc j _ a (Array.getElem?_eq_getElem hlt) hj
    exact ⟨_, hcell, h1, h2⟩
theorem run_isRow {P : Program} {T : TypeId} (w : World) (h : (P.underlying T).isSome = true) : (isAgg T).run P w = .ok (isRowT P T) w := by
  obtain ⟨d, hd⟩ := Option.isSome_iff_exists.1 h
  unfold isAgg isRowT
  rw [Sem.run_bind, run_underlying hd w, hd]
  cases d <;> rfl
theorem run_ld {P : Program} {G : Gh} {w : World} {g o : Nat} {cs : List AV} (hl : Lies G w g o cs) {T : TypeId} (hc : ldC P T cs) : ∃ v, (Instr.loadAt T (.pointer (some ⟨g, o, none⟩))).run P w = .ok v w ∧ RS G v (ldA P T cs) ∧
    (if isRowT P T then ∃ us, v = .agg us ∧ ∀ j, j < szP P T → us[j]? = w.cell? ⟨g, o + j, none⟩ else w.cell? ⟨g, o, none⟩ = some v) := by
  unfold ldC at hc
  unfold ldA
  by_cases hR : isRowT P T = true
  · rw [if_pos hR] at hc
    simp only [hR, if_true]
    obtain ⟨hi, hsz⟩ := hc
    obtain ⟨d, hu, hd⟩ : ∃ d, P.underlying T = some d ∧ d.isRow = true := by
      unfold isRowT at hR
      split at hR <;> first | exact ⟨_, ‹_›, rfl⟩ | cases hR
    let us : List Value := (List.range (szP P T)).map fun j => (w.cell? ⟨g, o + j, none⟩).getD undef
    have hus : ∀ (j : Nat), j < szP P T → ∃ v a, us[j]? = some v ∧ cs[j]? = some a ∧ w.cell? ⟨g, o + j, none⟩ = some v ∧ v.oneCell' = true ∧ RS G v a := by
      intro j hj
      have hj' : j < cs.length := by omega
      obtain ⟨v, h1, h2, h3⟩ := hl j _ (List.getElem?_eq_getElem hj')
      exact ⟨v, _, by simp [us, hj, h1], List.getElem?_eq_getElem hj', h1, h2, h3⟩
    have hlen : us.length = szP P T := by simp [us]
    have hr := run_loadAt_mid (P := P) w g o T us d (fun j v hv => by
      have hj : j < szP P T := by rw [← hlen]; exact (List.getElem?_eq_some_iff.1 hv).1
      obtain ⟨v', a, h1, h2, h3, _⟩ := hus j hj
      rw [h1] at hv
      cases hv
      exact h3) hu hd (by
      obtain ⟨i, hi⟩ := Option.isSome_iff_exists.1 hi
      simp [hi, hlen, szP])
    refine ⟨_, hr, .agg _ _ (by simp [hlen]; omega) (fun j v hv => ?_) (fun j v a hv ha => ?_), _, rfl, fun j hj => by obtain ⟨v, a, h1, h2, h3, _⟩ := hus j hj; rw [h3]; simpa using h1⟩
    · have hv : us[j]? = some v := by simpa using hv
      have hj : j < szP P T := by rw [← hlen]; exact (List.getElem?_eq_some_iff.1 hv).1
      obtain ⟨v', a, h1, h2, h3, h4, _⟩ := hus j hj
      rw [h1] at hv
      cases hv
      exact h4
    · have hv : us[j]? = some v := by simpa using hv
      have hj : j < szP P T := by rw [← hlen]; exact (List.getElem?_eq_some_iff.1 hv).1
      obtain ⟨v', a', h1, h2, h3, h4, h5⟩ := hus j hj
      rw [h1] at hv
      cases hv
      rw [List.getElem?_take_of_lt hj, h2] at ha
      cases ha
      exact h5
  · rw [if_neg hR] at hc
    have hR' : isRowT P T = false := by simpa using hR
    simp only [hR', Bool.false_eq_true, if_false]
    obtain ⟨hu, h0⟩ := hc
    rcases cs with _ | ⟨c, cs⟩
    · simp at h0
    · obtain ⟨v, h1, h2, h3⟩ := hl 0 c rfl
      rw [Nat.add_zero] at h1
      refine ⟨v, ?_, h3, h1⟩
      simp only [Instr.loadAt, Instr.sureAddr, Sem.run_bind, Sem.run_pure, Result.andThen_ok, loadVar, run_isRow w hu, hR', Bool.false_eq_true, if_false, run_load, h1]
theorem run_eqlA {P : Program} {G : Gh} {tm : Array Value} {vl : Nat → AV} {w : World} {op : BinOp} {T : TypeId} {x y : Operand} {u v : Value} {b : Bool} (hc : eqlC op) (hg : (eqGuard op T x y u v).run P w = .ok () w) (h1 : binOp .eql T u v = (do pure (.bool (← Op.equal T u v)))) (h2 : binOp .neq T u v = (do pure (.bool (!(← Op.equal T u v))))) (hE : (Op.equal T u v).run P w = .ok b w) :
    ∃ z, (do eqGuard op T x y u v; binOp op T u v : Sem Value).run P w = .ok z w ∧ RX G tm vl z (eqlA op b) := by
  cases op <;> first
    | exact hc.elim
    | (refine ⟨.bool b, ?_, .inl (.imm _ rfl)⟩; rw [Sem.run_bind, hg, Result.andThen_ok, h1, Sem.run_bind, hE]; rfl)
    | (refine ⟨.bool (!b), ?_, .inl (.imm _ rfl)⟩; rw [Sem.run_bind, hg, Result.andThen_ok, h2, Sem.run_bind, hE]; rfl)
theorem guard_bool (op : BinOp) (T : TypeId) (x y : Operand) (a b : Bool) (P : Program) (w : World) : (eqGuard op T x y (.bool a) (.bool b)).run P w = .ok () w := by cases op <;> rfl
theorem guard_ptr (op : BinOp) (T : TypeId) (x y : Operand) (a b : Option Addr) (P : Program) (w : World) : (eqGuard op T x y (.pointer a) (.pointer b)).run P w = .ok () w := by cases op <;> rfl
theorem guard_ifc (op : BinOp) (T : TypeId) (x y : Operand) (t : TypeId) (a : Value) (P : Program) (w : World) : (eqGuard op T x y (.iface t a) .nilIface).run P w = .ok () w := by cases op <;> rfl
theorem guard_nil (op : BinOp) (T : TypeId) (x y : Operand) (h : (isConstO x || isConstO y) = true) (P : Program) (w : World) : (eqGuard op T x y .nilIface .nilIface).run P w = .ok () w := by
  cases x <;> cases y <;> first | (simp [isConstO] at h; done) | (cases op <;> simp [eqGuard])
theorem equal_bool {P : Program} {T : TypeId} (hT : isBoolT P T) (a b : Bool) (w : World) : (Op.equal T (.bool a) (.bool b)).run P w = .ok (a == b) w := by
  unfold isBoolT at hT
  split at hT
  · next h =>
    have e : Op.equal T (.bool a) (.bool b) = Op.equalIn (9999 + 1) T (.bool a) (.bool b) := rfl
    rw [e, Op.equalIn, Sem.run_bind, run_underlying h]
    rfl
  · exact hT.elim
theorem equal_ptr {P : Program} {T : TypeId} (hT : isPtrT P T) (a : Option Addr) (w : World) : (Op.equal T (.pointer a) (.pointer none)).run P w = .ok a.isNone w := by
  unfold isPtrT at hT
  split at hT
  · next h =>
    have e : Op.equal T (.pointer a) (.pointer none) = Op.equalIn (9999 + 1) T (.pointer a) (.pointer none) := rfl
    rw [e, Op.equalIn, Sem.run_bind, run_underlying h]
    cases a <;> rfl
  · exact hT.elim
theorem equal_ifc {P : Program} {T : TypeId} (hT : isIfcT P T) (w : World) : (Op.equal T .nilIface .nilIface).run P w = .ok true w ∧ ∀ t a, (Op.equal T (.iface t a) .nilIface).run P w = .ok false w := by
  unfold isIfcT at hT
  split at hT
  · next h =>
    refine ⟨?_, fun t a => ?_⟩
    · have e : Op.equal T .nilIface .nilIface = Op.equalIn (9999 + 1) T .nilIface .nilIface := rfl
      rw [e, Op.equalIn, Sem.run_bind, run_underlying h]
      rfl
    · have e : Op.equal T (.iface t a) .nilIface = Op.equalIn (9999 + 1) T (.iface t a) .nilIface := rfl
      rw [e, Op.equalIn, Sem.run_bind, run_underlying h]
      rfl
  · exact hT.elim
theorem run_part {P : Program} {G : Gh} {w : World} {vs : Array Value} {cs : List AV} (hv : RS G (.agg vs) (.agg cs)) {T : TypeId} {off : Nat} (hc : ldC P T (cs.drop off)) : ∃ v, (part T vs off).run P w = .ok v w ∧ RS G v (ldA P T (cs.drop off)) := by
  cases hv with
  | agg vs cs hl h1 h =>
  unfold ldC at hc
  unfold ldA
  by_cases hR : isRowT P T = true
  · rw [if_pos hR] at hc ⊢
    obtain ⟨hi, hsz⟩ := hc
    obtain ⟨i, hi⟩ := Option.isSome_iff_exists.1 hi
    have hs : szP P T = i.size := by simp [szP, hi]
    have hu : (P.underlying T).isSome = true := by
      unfold isRowT at hR
      split at hR <;> first | (rename_i e; rw [e]; rfl) | cases hR
    simp only [List.length_drop] at hsz
    refine ⟨.agg (vs.extract off (off + i.size)), by simp [part, run_isRow w hu, hR, sizeOf, typeInfo, hi], .agg _ _ (by simp; omega) (fun j v hj => ?_) fun j v a hj ha => ?_⟩
    · rw [Array.getElem?_extract] at hj
      split at hj
      · exact h1 _ v hj
      · cases hj
    · rw [Array.getElem?_extract] at hj
      split at hj
      · next hlt =>
        rw [List.getElem?_take_of_lt (by omega), List.getElem?_drop] at ha
        exact h _ v a hj ha
      · cases hj
  · rw [if_neg hR] at hc ⊢
    obtain ⟨hu, h0⟩ := hc
    simp only [List.length_drop] at h0
    have hR' : isRowT P T = false := by simpa using hR
    have hv : vs[off]? = some vs[off] := Array.getElem?_eq_getElem (by omega)
    have ha : cs[off]? = some cs[off] := List.getElem?_eq_getElem (by omega)
    refine ⟨vs[off], by simp only [part, Sem.run_bind, run_isRow w hu, hR', Result.andThen_ok, Bool.false_eq_true, if_false, hv, Sem.run_pure], ?_⟩
    have e : (cs.drop off).headD .dead = cs[off] := by
      rw [List.drop_eq_getElem_cons (by omega)]; rfl
    rw [e]
    exact h off _ _ hv ha
theorem RX.agg {G : Gh} {tm : Array Value} {vl : Nat → AV} {v : Value} {cs : List AV} (h : RX G tm vl v (.agg cs)) : ∃ vs, v = .agg vs ∧ RS G (.agg vs) (.agg cs) := by
  rcases h with h | ⟨r, off, g, T, cs, h, _⟩
  · cases h with
    | agg vs cs hl h1 h => exact ⟨vs, rfl, .agg vs cs hl h1 h⟩
  · cases h
theorem kind_und {P : Program} {t : TypeId} (h : (kindP P t).isSome = true) : ∃ k, P.underlying t = some (.int k) := by
  unfold kindP at h
  split at h
  · next k e => exact ⟨k, e⟩
  · cases h
theorem str_und {P : Program} {t : TypeId} (h : strP P t = true) : P.underlying t = some .string := by
  unfold strP at h
  split at h
  · next e => exact e
  · cases h
theorem bool_und {P : Program} {t : TypeId} (h : boolP P t = true) : P.underlying t = some .bool := by
  unfold boolP at h
  split at h
  · next e => exact e
  · cases h
theorem run_eq1 {P : Program} {G : Gh} {w : World} {t : TypeId} {a b : AV} {u v : Value} (hc : eq1C P t a b) (hu : RS G u a) (hv : RS G v b) (d : Nat) : (Op.equalIn (d + 1) t u v).run P w = .ok (eqV a b) w ∧ isRowT P t = false ∧ (P.underlying t).isSome = true := by
  unfold eq1C at hc
  split at hc
  · obtain ⟨h1, rfl⟩ := hc
    obtain ⟨k, hk⟩ := kind_und h1
    cases hu; cases hv
    exact ⟨run_equalIn_int w d t _ k _ _ hk, by simp [isRowT, hk], by simp [hk]⟩
  · have hk := bool_und hc
    cases hu; cases hv
    exact ⟨run_equalIn_bool' w d t _ _ hk, by simp [isRowT, hk], by simp [hk]⟩
  · have hk := str_und hc
    cases hu; cases hv
    exact ⟨run_equalIn_string w d t _ _ hk, by simp [isRowT, hk], by simp [hk]⟩
  · exact hc.elim
theorem eq1_row {P : Program} {t : TypeId} {a b : AV} (hc : eq1C P t a b) : isRowT P t = false ∧ (P.underlying t).isSome = true := by
  unfold eq1C at hc
  split at hc
  · obtain ⟨k, hk⟩ := kind_und hc.1
    exact ⟨by simp [isRowT, hk], by simp [hk]⟩
  · have hk := bool_und hc
    exact ⟨by simp [isRowT, hk], by simp [hk]⟩
  · have hk := str_und hc
    exact ⟨by simp [isRowT, hk], by simp [hk]⟩
  · exact hc.elim
theorem run_eqFields {P : Program} {G : Gh} {w : World} {xs ys : Array Value} {as bs : List AV} (hx : RS G (.agg xs) (.agg as)) (hy : RS G (.agg ys) (.agg bs)) (d : Nat) : ∀ (fs : List Field) (j : Nat), fldOk j fs = true → eqFC P (fs.map (·.type)) (as.drop j) (bs.drop j) →
    (Op.eqFields (d + 1) xs ys fs).run P w = .ok (eqCs (as.drop j) (bs.drop j)) w
  | [], j, _, hc => by
    generalize as.drop j = A at hc ⊢
    generalize bs.drop j = B at hc ⊢
    cases A with
    | nil => rfl
    | cons a A => cases B <;> exact hc.elim
  | f :: fs, j, hf, hc => by
    simp only [fldOk, Bool.and_eq_true, bne_iff_ne, ne_eq, beq_iff_eq] at hf
    obtain ⟨⟨h1, h2⟩, h3⟩ := hf
    have ha : as.drop j ≠ [] := fun e => by
      simp only [e, List.map_cons] at hc
      generalize bs.drop j = B at hc
      cases B <;> exact hc.elim
    have hb : bs.drop j ≠ [] := fun e => by
      simp only [e, List.map_cons] at hc
      generalize as.drop j = A at hc
      cases A <;> exact hc.elim
    have hja : j < as.length := by
      apply Nat.lt_of_not_le
      intro hle
      exact ha (List.drop_eq_nil_of_le hle)
    have hjb : j < bs.length := by
      apply Nat.lt_of_not_le
      intro hle
      exact hb (List.drop_eq_nil_of_le hle)
    have ea : as.drop j = as[j] :: as.drop (j + 1) := List.drop_eq_getElem_cons hja
    have eb : bs.drop j = bs[j] :: bs.drop (j + 1) := List.drop_eq_getElem_cons hjb
    rw [ea, eb] at hc
    obtain ⟨hc1, hc2⟩ : eq1C P f.type as[j] bs[j] ∧ eqFC P (fs.map (·.type)) (as.drop (j + 1)) (bs.drop (j + 1)) := hc
    obtain ⟨hr, hu⟩ := eq1_row hc1
    have ldC' : ∀ cs : List AV, j < cs.length → ldC P f.type (cs.drop j) := fun cs hj => by
      unfold ldC
      rw [hr]
      simp only [Bool.false_eq_true, if_false]
      exact ⟨hu, by simp only [List.length_drop]; omega⟩
    have ldA' : ∀ (cs : List AV) (hj : j < cs.length), ldA P f.type (cs.drop j) = cs[j] := fun cs hj => by
      unfold ldA
      rw [hr, List.drop_eq_getElem_cons hj]
      rfl
    obtain ⟨u, u1, u2⟩ := run_part (P := P) (w := w) hx (ldC' as hja)
    obtain ⟨v, v1, v2⟩ := run_part (P := P) (w := w) hy (ldC' bs hjb)
    rw [ldA' as hja] at u2
    rw [ldA' bs hjb] at v2
    have he := (run_eq1 (w := w) hc1 u2 v2 d).1
    have ih := run_eqFields (w := w) hx hy d fs (j + 1) h3 hc2
    rw [ea, eb]
    simp only [Op.eqFields, h2, ne_eq, h1, not_false_eq_true, if_true, Sem.run_bind, u1, v1, Result.andThen_ok, he, eqCs]
    cases eqV as[j] bs[j]
    · rfl
    · simp only [Bool.not_true, Bool.false_eq_true, if_false, Bool.true_and]
      exact ih
theorem run_aggEq {P : Program} {G : Gh} {w : World} {T : TypeId} {xs ys : Array Value} {as bs : List AV} (hx : RS G (.agg xs) (.agg as)) (hy : RS G (.agg ys) (.agg bs)) (ht : eqTP P T = true) (hc : eqFC P (typsP P T) as bs) (op : BinOp) (x y : Operand) :
    (Op.equal T (.agg xs) (.agg ys)).run P w = .ok (eqCs as bs) w ∧ (eqGuard op T x y (.agg xs) (.agg ys)).run P w = .ok () w := by
  unfold eqTP at ht
  simp only [Bool.and_eq_true, Bool.not_eq_true'] at ht
  obtain ⟨⟨h1, h2⟩, h3⟩ := ht
  split at h1
  · next fs hu =>
    have hfs : P.fieldsOf T = fs := by simp [Program.fieldsOf, hu]
    constructor
    · have e : Op.equal T (.agg xs) (.agg ys) = Op.equalIn (9999 + 1) T (.agg xs) (.agg ys) := rfl
      rw [e, run_equalIn_struct w 9999 T xs ys (by rw [hfs]; exact hu) h2]
      exact run_eqFields hx hy 9998 (P.fieldsOf T).toList 0 (by rw [hfs]; exact h1) hc
    · cases op <;> simp [eqGuard, run_program, h3]
  · cases h1
theorem run_bin {P : Program} {G : Gh} {tm : Array Value} {vl : Nat → AV} {w : World} {op : BinOp} {T : TypeId} {x y : Operand} {a b : AV} {u v : Value} (hu : RX G tm vl u a) (hv : RX G tm vl v b) (hc : binC P op T (isConstO x || isConstO y) a b) :
    ∃ z, (do eqGuard op T x y u v; binOp op T u v : Sem Value).run P w = .ok z w ∧ RX G tm vl z (binA op a b) := by
  unfold binC at hc
  split at hc
  · obtain ⟨xs, rfl, hx⟩ := hu.agg
    obtain ⟨ys, rfl, hy⟩ := hv.agg
    obtain ⟨h1, h2⟩ := run_aggEq (w := w) hx hy hc.2.1 hc.2.2 op x y
    exact run_eqlA hc.1 h2 rfl rfl h1
  · -- integers
    obtain ⟨rfl, _⟩ := hu.imm
    obtain ⟨rfl, _⟩ := hv.imm
    obtain ⟨rfl, hc⟩ := hc
    cases op <;> simp only [intC] at hc <;> first
      | exact hc.elim
      | (refine ⟨_, ?_, .inl (.imm _ rfl)⟩; simp [eqGuard, binOp, Op.intArith, Op.intDiv, Op.intBits, Op.intCmp, hc])
  · obtain ⟨rfl, _⟩ := hu.imm
    obtain ⟨rfl, _⟩ := hv.imm
    have hmx : (IntKind.i64.max : Int) = 9223372036854775807 := by decide
    cases op <;> simp only [strC] at hc <;> first
      | exact hc.elim
      | (refine ⟨_, ?_, .inl (.imm _ rfl)⟩; simp [eqGuard, binOp, Op.stringOp, hmx]; done)
      | (refine ⟨_, ?_, .inl (.imm _ rfl)⟩; simp [eqGuard, binOp, Op.stringOp, hmx]; omega)
  · obtain ⟨rfl, _⟩ := hu.imm
    obtain ⟨rfl, _⟩ := hv.imm
    exact run_eqlA hc.1 (guard_bool _ _ _ _ _ _ _ _) rfl rfl (equal_bool hc.2 _ _ w)
  · obtain ⟨rfl, _⟩ := hu.imm
    obtain ⟨rfl, _⟩ := hv.imm
    exact run_eqlA hc.1 (guard_ptr _ _ _ _ _ _ _ _) rfl rfl (equal_ptr hc.2 _ w)
  · obtain ⟨g, o, rfl, _⟩ := hu.ptr
    obtain ⟨rfl, _⟩ := hv.imm
    exact run_eqlA hc.1 (guard_ptr _ _ _ _ _ _ _ _) rfl rfl (equal_ptr hc.2 _ w)
  · obtain ⟨g, T', cs, rfl, _, _⟩ := hu.ref
    obtain ⟨rfl, _⟩ := hv.imm
    exact run_eqlA hc.1 (guard_ptr _ _ _ _ _ _ _ _) rfl rfl (equal_ptr hc.2 _ w)
  · obtain ⟨rfl, _⟩ := hu.imm
    obtain ⟨rfl, _⟩ := hv.imm
    exact run_eqlA hc.1 (guard_nil _ _ _ _ hc.2.2 _ _) rfl rfl (equal_ifc hc.2.1 w).1
  · obtain ⟨z, rfl, _⟩ := hu.ifc
    obtain ⟨rfl, _⟩ := hv.imm
    exact run_eqlA hc.1 (guard_ifc _ _ _ _ _ _ _ _) rfl rfl ((equal_ifc hc.2 w).2 _ _)
  · exact hc.elim
end Go.Proofs.YtldnkeackphilaaGreatDoor
/- The calculus of values: every operation that only reads. -/
namespace Go.Proofs.YtldnkeackphilaaGreatDoor
open Go.RowKit

def intOfA : AV → Int
  | .imm (.int _ n) => n
  | _ => 0
def isIntA : AV → Prop
  | .imm (.int _ _) => True
  | _ => False
def boundA (st : St) (o : Option Operand) (d : Nat) : Nat := match o with
  | none => d
  | some x => (intOfA (st.get x)).toNat
def boundC (st : St) (y : Bool) (o : Option Operand) (hi : Nat) : Prop := match o with
  | none => True
  | some x => st.ok y x ∧ isIntA (st.get x) ∧ 0 ≤ intOfA (st.get x) ∧ intOfA (st.get x) ≤ hi
def unA (op : UnOp) : AV → AV
  | .imm (.bool b) => match op with
    | .not => .imm (.bool (!b))
    | _ => .dead
  | .imm (.int k n) => match op with
    | .neg => .imm (.int k (k.wrap (0 - n)))
    | _ => .dead
  | _ => .dead
def unC (op : UnOp) : AV → Prop
  | .imm (.bool _) => op = .not
  | .imm (.int _ _) => op = .neg
  | _ => False
def convA (P : Program) (dst : TypeId) : AV → AV
  | .imm (.int _ n) => match P.underlying dst with
    | some (.int k) => .imm (.int k (k.wrap n))
    | _ => .dead
  | .imm (.string s) => .imm (.string s)
  | _ => .dead
def convC (P : Program) (src dst : TypeId) : AV → Prop
  | .imm (.int _ _) => (match P.underlying dst with | some (.int _) => True | _ => False) ∧ (P.underlying src).isSome = true
  | .imm (.string _) => (match P.underlying dst with | some .string => True | _ => False) ∧ (match P.underlying src with | some .string => True | _ => False)
  | _ => False
def zplP (P : Program) (T : TypeId) : Option (List Value × List (Nat × Nat)) := match P.info? T, P.underlying T with
  | some it, some (.struct fields) => match it.zero, fields.toList.mapM (fun f => (P.info? f.type).map fun i => (f.offset, i.size)) with
    | some z, some places => if z.cells.all (·.oneCell') then some (z.cells.toList, places) else none
    | _, _ => none
  | _, _ => none
def plcO (o : Option (Nat × Nat)) : Nat := match o with
  | some p => p.1
  | none => 0
def plcC (o : Option (Nat × Nat)) (k n : Nat) : Prop := match o with
  | some p => k = p.2 ∧ p.1 + k ≤ n
  | none => False
def fillA (st : St) (pl : List (Nat × Nat)) : List AV → List (Nat × Operand) → List AV
  | cs, [] => cs
  | cs, p :: l => fillA st pl (spliceL cs (plcO pl[p.1]?) (st.get p.2).cells) l
def fillC (st : St) (y : Bool) (pl : List (Nat × Nat)) (n : Nat) : List (Nat × Operand) → Prop
  | [] => True
  | p :: l => st.ok y p.2 ∧ (st.get p.2).shared = true ∧ (st.get p.2).whole = true ∧ plcC pl[p.1]? (st.get p.2).cells.length n ∧ fillC st y pl n l
def ev (P : Program) (st : St) : Op → AV
  | .move x => st.get x
  | .assign x => st.get x
  | .pick c a b => match st.get c, st.get a, st.get b with
    | .imm (.bool c), .imm (.bool p), .imm (.bool q) => .imm (.bool (if c then p else q))
    | _, _, _ => .dead
  | .nilCheck x => st.get x
  | .load T x => match st.get x with
    | .ref r off => match st.val r with
      | .box _ cs => ldA P T (cs.drop off)
      | _ => .dead
    | .ptr cs => ldA P T cs
    | _ => .dead
  | .fieldAddr S x f => match P.underlying S with
    | some (.struct fs) => match fs[f]? with
      | some fl => match st.get x with
        | .ref r off => .ref r (off + fl.offset)
        | .ptr cs => .ptr (cs.drop fl.offset)
        | _ => .dead
      | none => .dead
    | _ => .dead
  | .field S x f => match P.underlying S with
    | some (.struct fs) => match fs[f]? with
      | some fl => match st.get x with
        | .agg cs => ldA P fl.type (cs.drop fl.offset)
        | _ => .dead
      | none => .dead
    | _ => .dead
  | .indexAddr _ x i => match st.get x with
    | .sl es => .ptr (es.getD (intOfA (st.get i)).toNat [])
    | _ => .dead
  | .index _ x i => match st.get x with
    | .imm (.string s) => .imm (.int .u8 ((s.data[(intOfA (st.get i)).toNat]?).getD 0).toNat)
    | _ => .dead
  | .slice _ x lo hi _ => match st.get x with
    | .imm (.string s) => .imm (.string (s.extract (boundA st lo 0) (boundA st hi s.size)))
    | .sl es => .sl ((es.take (boundA st hi es.length)).drop (boundA st lo 0))
    | _ => .dead
  | .binOp op _ x y _ => binA op (st.get x) (st.get y)
  | .unOp op _ x => unA op (st.get x)
  | .convert _ dst x => convA P dst (st.get x)
  | .makeInterface T x => .ifc T (st.get x)
  | .extract x j => match st.get x with
    | .tup as => as.getD j .dead
    | _ => .dead
  | .build T parts => match zplP P T with
    | some z => .agg (fillA st z.2 (z.1.map constCell) parts.toList)
    | none => .dead
  | .call c => match c.callee, c.args[0]? with
    | .builtin .len, some x => match st.get x with
      | .sl es => .imm (.int .i64 es.length)
      | .imm (.string s) => .imm (.int .i64 s.size)
      | _ => .dead
    | _, _ => .dead
  | _ => .dead
def evc (P : Program) (st : St) (y : Bool) : Op → Prop
  | .move x => st.ok y x
  | .assign x => st.ok y x
  | .pick c a b => st.ok y c ∧ match st.get c, st.get a, st.get b with
    | .imm (.bool c), .imm (.bool _), .imm (.bool _) => st.ok (y && c) a ∧ st.ok (y && !c) b
    | _, _, _ => False
  | .nilCheck x => st.ok y x ∧ match st.get x with
    | .ref _ _ => True
    | .ptr _ => True
    | _ => False
  | .load T x => st.ok y x ∧ match st.get x with
    | .ref r off => match st.val r with
      | .box _ cs => y = true → ldC P T (cs.drop off)
      | _ => False
    | .ptr cs => y = true → ldC P T cs
    | _ => False
  | .fieldAddr S x f => st.ok y x ∧ match P.underlying S with
    | some (.struct fs) => match fs[f]? with
      | some fl => szP P fl.type ≠ 0 ∧ (match st.get x with
        | .ref _ _ => True
        | .ptr _ => True
        | _ => False)
      | none => False
    | _ => False
  | .field S x f => st.ok y x ∧ match P.underlying S with
    | some (.struct fs) => match fs[f]? with
      | some fl => (match st.get x with
        | .agg cs => ldC P fl.type (cs.drop fl.offset)
        | _ => False)
      | none => False
    | _ => False
  | .indexAddr T x i => st.ok y x ∧ st.ok y i ∧ isIntA (st.get i) ∧ match P.underlying T with
    | some (.slice e) => (P.info? e).isSome = true ∧ match st.get x with
      | .sl es => y = true → 0 ≤ intOfA (st.get i) ∧ intOfA (st.get i) < es.length ∧ (es.getD (intOfA (st.get i)).toNat []).length = szP P e
      | _ => False
    | _ => False
  | .index T x i => st.ok y x ∧ st.ok y i ∧ isIntA (st.get i) ∧ match P.underlying T with
    | some .string => match st.get x with
      | .imm (.string s) => y = true → 0 ≤ intOfA (st.get i) ∧ intOfA (st.get i) < s.size
      | _ => False
    | _ => False
  | .slice T x lo hi mx => st.ok y x ∧ mx.isNone = true ∧ match P.underlying T with
    | some .string => match st.get x with
      | .imm (.string s) => boundC st y hi s.size ∧ boundC st y lo (boundA st hi s.size)
      | _ => False
    | some (.slice e) => (P.info? e).isSome = true ∧ match st.get x with
      | .sl es => boundC st y hi es.length ∧ boundC st y lo (boundA st hi es.length) ∧ ∀ x ∈ es, x.length = szP P e
      | _ => False
    | _ => False
  | .binOp op T x z _ => st.ok y x ∧ st.ok y z ∧ binC P op T (isConstO x || isConstO z) (st.get x) (st.get z)
  | .unOp op _ x => st.ok y x ∧ unC op (st.get x)
  | .convert src dst x => st.ok y x ∧ convC P src dst (st.get x)
  | .makeInterface T x => st.ok y x ∧ (st.get x).shared = true ∧ match P.underlying T with
    | some (.interface _) => False
    | some _ => True
    | none => False
  | .extract x j => st.ok y x ∧ match st.get x with
    | .tup as => j < as.length
    | _ => False
  | .build T parts => match zplP P T with
    | some z => fillC st y z.2 z.1.length parts.toList
    | none => False
  | .call c => match c.callee, c.args[0]?, c.argTypes[0]? with
    | .builtin .len, some x, some T => st.ok y x ∧ match st.get x with
      | .sl _ => (match P.underlying T with | some (.slice _) => True | _ => False)
      | .imm (.string _) => (match P.underlying T with | some .string => True | _ => False)
      | _ => False
    | _, _, _ => False
  | _ => False
theorem isInt_val {G : Gh} {tm : Array Value} {vl : Nat → AV} {v : Value} {a : AV} (h : RX G tm vl v a) (hi : isIntA a) : ∃ k, v = .int k (intOfA a) := by
  unfold isIntA at hi
  split at hi
  · exact ⟨_, h.imm.1⟩
  · exact hi.elim
theorem run_bound {P : Program} {w : World} {k : IntKind} {n : Int} {hi : Nat} (c : BoundsCode) (h0 : 0 ≤ n) (h1 : n ≤ hi) : (Instr.sliceBound (.int k n) hi c).run P w = .ok n.toNat w := by
  simp [Instr.sliceBound, asIntOf, h0, h1]
theorem run_bounds {P : Program} {N : Nat} {G : Gh} {O : Om} {w : World} {a : Act} {st : St} (h : Rl P N G O w a.tmps st) (isS : Bool) (len cap : Nat) (lo hi : Option Operand) (hlc : len ≤ cap) (h1 : boundC st true hi len) (h2 : boundC st true lo (boundA st hi len)) :
    (Instr.sliceBounds isS len cap (lo.map a.eval) (hi.map a.eval) none).run P w = .ok (boundA st lo 0, boundA st hi len, cap) w ∧ boundA st lo 0 ≤ boundA st hi len ∧ boundA st hi len ≤ len := by
  have key : ∀ (x : Operand) (m c d : Nat) (code : BoundsCode), m ≤ c → boundC st true (some x) m → (Instr.sliceBound (a.eval x) c code).run P w = .ok (boundA st (some x) d) w ∧ boundA st (some x) d ≤ m := by
    intro x m c d code hmc hb
    obtain ⟨b1, b2, b3, b4⟩ := hb
    obtain ⟨k, hk⟩ := isInt_val (get_sound h rfl b1) b2
    simp only [boundA]
    exact ⟨by rw [hk]; exact run_bound code b3 (by omega), by omega⟩
  have hhi : boundA st hi len ≤ len := by
    cases hi with
    | none => exact Nat.le_refl _
    | some x => exact (key x len len len .sliceB (Nat.le_refl _) h1).2
  have hlo : boundA st lo 0 ≤ boundA st hi len := by
    cases lo with
    | none => exact Nat.zero_le _
    | some x => exact (key x _ _ 0 .sliceB (Nat.le_refl _) h2).2
  refine ⟨?_, hlo, hhi⟩
  cases hi with
  | none =>
    cases lo with
    | none => rfl
    | some x =>
      have k2 := (key x len len 0 .sliceB (Nat.le_refl _) h2).1
      simp [Instr.sliceBounds, k2, boundA]
  | some z =>
    have k1 := (key z len cap len (if isS then .sliceAcap else .sliceAlen) hlc h1).1
    cases lo with
    | none =>
      simp only [Instr.sliceBounds, Option.map_some, Option.map_none, Sem.run_bind, k1, Result.andThen_ok, Sem.run_pure]
      rfl
    | some x =>
      have k2 := (key x (boundA st (some z) len) (boundA st (some z) len) 0 .sliceB (Nat.le_refl _) h2).1
      simp only [Instr.sliceBounds, Option.map_some, Sem.run_bind, k1, Result.andThen_ok, Sem.run_pure, Option.isSome_none, Bool.false_eq_true, if_false, k2]
end Go.Proofs.YtldnkeackphilaaGreatDoor
/- The calculus of values: a reading operation comes to what it is worth. -/
namespace Go.Proofs.YtldnkeackphilaaGreatDoor
open Go.RowKit

theorem drop_flat {sz : Nat} {es : List (List AV)} (l h : Nat) {i : Nat} {e : List AV} (hi : ((es.take h).drop l)[i]? = some e) : es[l + i]? = some e := by
  rw [List.getElem?_drop] at hi
  by_cases hlt : l + i < h
  · rwa [List.getElem?_take_of_lt hlt] at hi
  · rw [List.getElem?_take_eq_none (by omega)] at hi
    cases hi
theorem RS.slice_inv {G : Gh} {A : Option Addr} {n c : Nat} {es : List (List AV)} (h : RS G (.slice A n c) (.sl es)) : (c = 0 ∧ es = []) ∨ ∃ g o sz, A = some ⟨g, o, none⟩ ∧ (∀ e ∈ es, e.length = sz) ∧ es.length ≤ c ∧ ∀ (i : Nat) (e : List AV) (j : Nat) (a : AV), es[i]? = some e → e[j]? = some a → G g (o + i * sz + j) a := by
  generalize hv : Value.slice A n c = v at h
  cases h with
  | nil => cases hv; exact .inl ⟨rfl, rfl⟩
  | sl g o sz c es h1 h2 h3 => cases hv; exact .inr ⟨g, o, sz, rfl, h1, h2, h3⟩
theorem fold_sets (off : Nat) : ∀ (l : List Value) (j : Nat) (cs : Array Value), (l.zipIdx j).foldl (fun cs (q : Value × Nat) => cs.setIfInBounds (off + q.2) q.1) cs = setsA cs (off + j) l
  | [], _, _ => rfl
  | u :: l, j, cs => by
    rw [List.zipIdx_cons, List.foldl_cons, fold_sets off l, setsA]
    rfl
theorem RS.splice {G : Gh} {v : Value} {a : AV} {vs : Array Value} {cs : List AV} {off : Nat} (h : RS G (.agg vs) (.agg cs)) (hv : RS G v a) (hw : a.whole = true) (hoff : off + a.cells.length ≤ cs.length) : RS G (.agg (setsA vs off v.cells.toList)) (.agg (spliceL cs off a.cells)) := by
  obtain ⟨hsz, hcell⟩ := hv.cells hw
  cases h with
  | agg _ _ hl h1 h =>
  have hlen : off + v.cells.toList.length ≤ vs.size := by simp [hsz, hl]; omega
  have key : ∀ (j : Nat) u, (setsA vs off v.cells.toList)[j]? = some u → (∀ b, (spliceL cs off a.cells)[j]? = some b → RS G u b) ∧ u.oneCell' = true := by
    intro j u hu
    rw [setsA_get _ _ _ hlen] at hu
    have hs := splice_get hoff j
    simp only [Array.length_toList, hsz] at hu
    by_cases hj : off ≤ j ∧ j < off + a.cells.length
    · rw [if_pos hj] at hu hs
      rw [Array.getElem?_toList] at hu
      have hlt : j - off < a.cells.length := by omega
      refine ⟨fun b hb => ?_, (hcell _ u _ hu (List.getElem?_eq_getElem hlt)).2⟩
      rw [hs] at hb
      exact (hcell _ u b hu hb).1
    · rw [if_neg hj] at hu hs
      refine ⟨fun b hb => ?_, h1 j u hu⟩
      rw [hs] at hb
      exact h j u b hu hb
  exact .agg _ _ (by rw [setsA_size, splice_len hoff, hl]) (fun j u hu => (key j u hu).2) fun j u b hu hb => (key j u hu).1 b hb
theorem fill_sound {P : Program} {N : Nat} {G : Gh} {O : Om} {w : World} {a : Act} {st : St} (h : Rl P N G O w a.tmps st) (pl : List (Nat × Nat)) : ∀ (l : List (Nat × Operand)) (cs : List AV) (vs : Array Value), RS G (.agg vs) (.agg cs) → fillC st true pl cs.length l →
    ∃ vs', Instr.fill (pl.toArray[·]?) vs (l.map fun p => (p.1, a.eval p.2)) = some vs' ∧ RS G (.agg vs') (.agg (fillA st pl cs l))
  | [], cs, vs, hr, _ => ⟨vs, rfl, hr⟩
  | p :: l, cs, vs, hr, hc => by
    obtain ⟨h1, h2, h3, h4, h5⟩ := hc
    have hv := (get_sound h rfl h1).rs h2
    obtain ⟨hsz, -⟩ := hv.cells h3
    cases hp : pl[p.1]? with
    | none => rw [hp] at h4; exact h4.elim
    | some q =>
      rw [hp] at h4
      obtain ⟨h6, h7⟩ : (st.get p.2).cells.length = q.2 ∧ q.1 + (st.get p.2).cells.length ≤ cs.length := h4
      have hl : vs.size = cs.length := by cases hr; assumption
      have hs := hr.splice hv h3 h7
      obtain ⟨vs', f1, f2⟩ := fill_sound h pl l _ _ hs (by rw [splice_len h7]; exact h5)
      refine ⟨vs', ?_, ?_⟩
      · have e : (fun x : Nat => pl.toArray[x]?) = fun x : Nat => pl[x]? := by funext x; simp
        rw [e] at f1 ⊢
        simp only [List.map_cons, Instr.fill, hp]
        rw [if_neg (by simp [hsz, h6, hl]; omega)]
        rw [← f1]
        have := fold_sets q.1 (a.eval p.2).cells.toList 0 vs
        rw [Nat.add_zero] at this
        rw [← this, ← Array.foldl_toList, Array.toList_zipIdx]
      · simp only [fillA, hp, plcO]
        exact f2
theorem ev_sound {P : Program} {N : Nat} {G : Gh} {O : Om} {w : World} {a : Act} {st : St} {o : Oper} (h : Rl P N G O w a.tmps st) (hc : evc P st true o.op) : ∃ v, (execOp a.eval o).run P w = .ok (.value v) w ∧ RX G a.tmps st.val v (ev P st o.op) := by
  obtain ⟨dst, op, type, pos, after, guard⟩ := o
  simp only at hc
  cases op with
  | move x => exact ⟨_, rfl, get_sound h rfl hc⟩
  | assign x => exact ⟨_, rfl, get_sound h rfl hc⟩
  | pick c x y =>
    obtain ⟨h1, h2⟩ := hc
    have hcv := get_sound h rfl h1
    split at h2
    · next cb p q e1 e2 e3 =>
      obtain ⟨h3, h4⟩ := h2
      rw [e1] at hcv
      have hcv := hcv.imm.1
      refine ⟨.bool (if cb then p else q), ?_, ?_⟩
      · cases cb
        · have hq := get_sound (y := true) h rfl (by simpa using h4)
          rw [e3] at hq
          have hq := hq.imm.1
          simp [execOp, hcv, asBool, hq]
        · have hp := get_sound (y := true) h rfl (by simpa using h3)
          rw [e2] at hp
          have hp := hp.imm.1
          simp [execOp, hcv, asBool, hp]
      · simp only [ev, e1, e2, e3]
        exact .inl (.imm _ rfl)
    · exact h2.elim
  | nilCheck x =>
    obtain ⟨h1, h2⟩ := hc
    have hv := get_sound h rfl h1
    split at h2
    · next r off e =>
      rw [e] at hv
      obtain ⟨g, T, cs, e1, -, -⟩ := id hv.ref
      exact ⟨a.eval x, by simp [execOp, e1], by simp only [ev, e]; exact hv⟩
    · next cs e =>
      rw [e] at hv
      obtain ⟨g, o, e1, -⟩ := id hv.ptr
      exact ⟨a.eval x, by simp [execOp, e1], by simp only [ev, e]; exact hv⟩
    · exact h2.elim
  | load T x =>
    obtain ⟨h1, h2⟩ := hc
    have hv := get_sound h rfl h1
    split at h2
    · next r off e =>
      rw [e] at hv
      obtain ⟨g, T', cs', e1, e2, e3⟩ := hv.ref
      split at h2
      · next T'' cs hb =>
        rw [hb] at e3
        cases e3
        obtain ⟨v, k1, k2, -⟩ := run_ld (P := P) (lies_drop (n := off) (lies_box h hb e2)) (h2 rfl)
        rw [Nat.zero_add] at k1
        refine ⟨v, ?_, .inl ?_⟩
        · simp [execOp, e1, k1]
        · simp only [ev, e, hb]
          exact k2
      · exact h2.elim
    · next cs e =>
      rw [e] at hv
      obtain ⟨g, o, e1, e2⟩ := hv.ptr
      obtain ⟨v, k1, k2, -⟩ := run_ld (P := P) (lies_ptr h.cells e2) (h2 rfl)
      exact ⟨v, by simp [execOp, e1, k1], .inl (by simp only [ev, e]; exact k2)⟩
    · exact h2.elim
  | fieldAddr S x f =>
    obtain ⟨h1, h2⟩ := hc
    have hv := get_sound h rfl h1
    split at h2
    · next fs hu =>
      split at h2
      · next fl hf =>
        obtain ⟨h3, h4⟩ := h2
        have hsz : (sizeOf fl.type).run P w = .ok (szP P fl.type) w ∧ szP P fl.type ≠ 0 := by
          refine ⟨?_, h3⟩
          cases hi : P.info? fl.type with
          | none => simp [szP, hi] at h3
          | some i => simp [sizeOf, typeInfo, hi, szP]
        have hadd : ∀ g o, (fieldPlace ⟨g, o, none⟩ fl).run P w = .ok ⟨g, o + fl.offset, none⟩ w := by
          intro g o
          simp [fieldPlace, hsz.1, hsz.2, Addr.add_mid]
        split at h4
        · next r off e =>
          rw [e] at hv
          obtain ⟨g, T, cs, e1, e2, e3⟩ := hv.ref
          refine ⟨.pointer (some ⟨g, off + fl.offset, none⟩), by simp [execOp, e1, Instr.fieldAt, run_underlying hu, hf, Instr.sureAddr, hadd], ?_⟩
          simp only [ev, hu, hf, e]
          exact .inr ⟨r, _, g, T, cs, rfl, rfl, e2, e3⟩
        · next cs e =>
          rw [e] at hv
          obtain ⟨g, o, e1, e2⟩ := hv.ptr
          refine ⟨.pointer (some ⟨g, o + fl.offset, none⟩), by simp [execOp, e1, Instr.fieldAt, run_underlying hu, hf, Instr.sureAddr, hadd], ?_⟩
          simp only [ev, hu, hf, e]
          exact .inl (.ptr g _ _ fun j b hj => by rw [List.getElem?_drop] at hj; rw [Nat.add_assoc]; exact e2 _ b hj)
        · exact h4.elim
      · exact h2.elim
    · exact h2.elim
  | field S x f =>
    obtain ⟨h1, h2⟩ := hc
    have hv := get_sound h rfl h1
    split at h2
    · next fs hu =>
      split at h2
      · next fl hf =>
        split at h2
        · next cs e =>
          rw [e] at hv
          have hv := hv.rs rfl
          obtain ⟨vs, e1⟩ : ∃ vs, a.eval x = .agg vs := by
            generalize a.eval x = u at hv
            cases hv
            exact ⟨_, rfl⟩
          rw [e1] at hv
          obtain ⟨v, k1, k2⟩ := run_part (P := P) (w := w) hv h2
          refine ⟨v, by simp [execOp, e1, Instr.field, run_underlying hu, hf, asAgg, k1], .inl ?_⟩
          simp only [ev, hu, hf, e]
          exact k2
        · exact h2.elim
      · exact h2.elim
    · exact h2.elim
  | indexAddr T x i =>
    obtain ⟨h1, h2, h3, h4⟩ := hc
    have hv := get_sound h rfl h1
    obtain ⟨k, hk⟩ := isInt_val (get_sound h rfl h2) h3
    split at h4
    · next e hu =>
      obtain ⟨h5, h4⟩ := h4
      split at h4
      · next es hx =>
        obtain ⟨b1, b2, b3⟩ := h4 rfl
        rw [hx] at hv
        have hv := hv.sl
        obtain ⟨i0, hi0⟩ := Option.isSome_iff_exists.1 h5
        have hs : szP P e = i0.size := by simp [szP, hi0]
        have hlt : (intOfA (st.get i)).toNat < es.length := by omega
        have hget : es.getD (intOfA (st.get i)).toNat [] = es[(intOfA (st.get i)).toNat] := by simp [hlt]
        generalize hau : a.eval x = u at hv
        cases hv with
        | nil => simp at hlt
        | sl g o sz c es hsz hcc hcell =>
          have hmem := List.getElem_mem hlt
          have hsz' : sz = i0.size := by rw [← hsz _ hmem, ← hget, b3, hs]
          refine ⟨.pointer (some ⟨g, o + (intOfA (st.get i)).toNat * i0.size, none⟩), ?_, ?_⟩
          · simp [execOp, Instr.indexAt, hk, hau, asIntOf, run_underlying hu, b1, b2, sizeOf, typeInfo, hi0, Addr.add_mid]
          · simp only [ev, hx]
            refine .inl (.ptr g _ _ fun j b hj => ?_)
            rw [hget] at hj
            rw [← hsz']
            exact hcell _ _ j b (List.getElem?_eq_getElem hlt) hj
      · exact h4.elim
    · exact h4.elim
  | index T x i =>
    obtain ⟨h1, h2, h3, h4⟩ := hc
    have hv := get_sound h rfl h1
    obtain ⟨k, hk⟩ := isInt_val (get_sound h rfl h2) h3
    split at h4
    · next hu =>
      split at h4
      · next s hx =>
        obtain ⟨b1, b2⟩ := h4 rfl
        rw [hx] at hv
        have hv := hv.imm.1
        have hlt : (intOfA (st.get i)).toNat < s.size := by omega
        refine ⟨.int .u8 (s[(intOfA (st.get i)).toNat]).toNat, ?_, ?_⟩
        · have hg : s[(intOfA (st.get i)).toNat]? = some s[(intOfA (st.get i)).toNat] := getElem?_pos s _ hlt
          simp [execOp, Instr.index, hk, asIntOf, run_underlying hu, hv, b1, hg]
        · simp only [ev, hx]
          have hd : s.data[(intOfA (st.get i)).toNat]? = some (s[(intOfA (st.get i)).toNat]) := by
            rw [Array.getElem?_eq_getElem (by exact hlt)]
            rfl
          rw [hd]
          exact .inl (.imm _ rfl)
      · exact h4.elim
    · exact h4.elim
  | slice T x lo hi mx =>
    obtain ⟨h1, h2, h3⟩ := hc
    have hv := get_sound h rfl h1
    obtain rfl : mx = none := by cases mx <;> first | rfl | cases h2
    split at h3
    · next hu =>
      split at h3
      · next s hx =>
        obtain ⟨b1, b2⟩ := h3
        rw [hx] at hv
        have hv := hv.imm.1
        obtain ⟨r1, -, -⟩ := run_bounds h false s.size s.size lo hi (Nat.le_refl _) b1 b2
        refine ⟨.string (s.extract (boundA st lo 0) (boundA st hi s.size)), ?_, by simp only [ev, hx]; exact .inl (.imm _ rfl)⟩
        simp only [execOp, Instr.sliceAt, Sem.run_bind, run_underlying hu, Result.andThen_ok, Instr.slice, hv, Option.map_none, Option.isSome_none, Bool.false_eq_true, if_false, Sem.run_pure, r1]
      · exact h3.elim
    · next e hu =>
      obtain ⟨h5, h3⟩ := h3
      split at h3
      · next es hx =>
        obtain ⟨b1, b2, b3⟩ := h3
        rw [hx] at hv
        have hv := hv.sl
        obtain ⟨i0, hi0⟩ := Option.isSome_iff_exists.1 h5
        have hs : szP P e = i0.size := by simp [szP, hi0]
        obtain ⟨A, n, c, hu2⟩ : ∃ A n c, a.eval x = .slice A n c := by
          generalize a.eval x = u at hv
          cases hv <;> exact ⟨_, _, _, rfl⟩
        rw [hu2] at hv
        obtain ⟨rfl, hnc, -⟩ := hv.flat b3
        obtain ⟨r1, q1, q2⟩ := run_bounds h true es.length c lo hi hnc b1 b2
        refine ⟨.slice (if c = boundA st lo 0 then A else Option.map (fun x => x.add (boundA st lo 0 * i0.size)) A) (boundA st hi es.length - boundA st lo 0) (c - boundA st lo 0), by simp only [execOp, Instr.sliceAt, Sem.run_bind, run_underlying hu, Result.andThen_ok, Instr.slice, hu2, Sem.run_pure, Option.map_none, r1, sizeOf, typeInfo, run_program, hi0], .inl ?_⟩
        simp only [ev, hx]
        generalize boundA st lo 0 = l at *
        generalize boundA st hi es.length = r at *
        have hlen : ((es.take r).drop l).length = r - l := by simp; omega
        rcases hv.slice_inv with ⟨rfl, rfl⟩ | ⟨g, o, sz, rfl, hsz, hcc, hcell⟩
        · have hl0 : l = 0 := by simp at q2; omega
          have hr0 : r = 0 := by simp at q2; omega
          subst hl0 hr0
          simp
          exact .nil
        · have hcc' : (if c = l then some (⟨g, o, none⟩ : Addr) else Option.map (fun x : Addr => x.add (l * i0.size)) (some ⟨g, o, none⟩)) = some ⟨g, if c = l then o else o + l * i0.size, none⟩ := by
            split
            · rfl
            · simp [Addr.add_mid]
          rw [hcc', ← hlen]
          refine .sl g _ sz _ _ (fun e he => hsz e (List.mem_of_mem_take (List.mem_of_mem_drop he))) (by rw [hlen]; omega) fun i e j b hi hj => ?_
          have h6 := drop_flat (sz := sz) l r hi
          have h7 := hcell _ e j b h6 hj
          have hil : i < r - l := by rw [← hlen]; exact (List.getElem?_eq_some_iff.1 hi).1
          have hsz' : sz = i0.size := by
            have hm := List.mem_of_getElem? h6
            rw [← hsz e hm, b3 e hm, hs]
          rw [if_neg (by omega), ← hsz']
          rw [Nat.add_mul, ← Nat.add_assoc] at h7
          exact h7
      · exact h3.elim
    · exact h3.elim
  | binOp op T x z zT =>
    obtain ⟨h1, h2, h3⟩ := hc
    obtain ⟨v, k1, k2⟩ := run_bin (P := P) (w := w) (get_sound h rfl h1) (get_sound h rfl h2) h3
    refine ⟨v, ?_, k2⟩
    simp only [execOp, Sem.run_bind] at k1 ⊢
    rw [k1]
    rfl
  | unOp op T x =>
    obtain ⟨h1, h2⟩ := hc
    have hv := get_sound h rfl h1
    unfold unC at h2
    split at h2
    · next b e =>
      subst h2
      rw [e] at hv
      have hv := hv.imm.1
      exact ⟨.bool (!b), by simp [execOp, hv, Op.unary], by simp only [ev, e, unA]; exact .inl (.imm _ rfl)⟩
    · next k n e =>
      subst h2
      rw [e] at hv
      have hv := hv.imm.1
      refine ⟨.int k (k.wrap (0 - n)), ?_, by simp only [ev, e, unA]; exact .inl (.imm _ rfl)⟩
      simp [execOp, hv, Op.unary, Op.intArith]
    · exact h2.elim
  | convert src dst x =>
    obtain ⟨h1, h2⟩ := hc
    have hv := get_sound h rfl h1
    unfold convC at h2
    split at h2
    · next k n e =>
      obtain ⟨h2, h3⟩ := h2
      obtain ⟨ds, h3⟩ := Option.isSome_iff_exists.1 h3
      rw [e] at hv
      have hv := hv.imm.1
      split at h2
      · next k' hu =>
        refine ⟨.int k' (k'.wrap n), ?_, by simp only [ev, e, convA, hu]; exact .inl (.imm _ rfl)⟩
        simp only [execOp, convert, Sem.run_bind, run_underlying h3, run_underlying hu, Result.andThen_ok, hv]
        cases ds <;> simp [Conv.intToInt]
      · exact h2.elim
    · next s e =>
      obtain ⟨h2, h3⟩ := h2
      rw [e] at hv
      have hv := hv.imm.1
      split at h2
      · next hu =>
        split at h3
        · next hs =>
          exact ⟨.string s, by simp only [execOp, convert, Sem.run_bind, run_underlying hs, run_underlying hu, Result.andThen_ok, hv, Sem.run_pure], by simp only [ev, e, convA]; exact .inl (.imm _ rfl)⟩
        · exact h3.elim
      · exact h2.elim
    · exact h2.elim
  | makeInterface T x =>
    obtain ⟨h1, h2, h3⟩ := hc
    have hv := (get_sound h rfl h1).rs h2
    refine ⟨.iface T (a.eval x), ?_, .inl (.ifc _ _ _ hv)⟩
    split at h3
    · exact h3.elim
    · next d hne hu =>
      cases d <;> first | exact absurd rfl (hne _) | simp [execOp, Instr.makeInterface, run_underlying hu]
    · exact h3.elim
  | build T parts =>
    have hc : (match zplP P T with | some z => fillC st true z.2 z.1.length parts.toList | none => False) := hc
    cases hz : zplP P T with
    | none => rw [hz] at hc; exact hc.elim
    | some z =>
      rw [hz] at hc
      have hc : fillC st true z.2 z.1.length parts.toList := hc
      unfold zplP at hz
      split at hz
      · next it fields hi hu =>
        split at hz
        · next z0 places hz0 hpl =>
          split at hz
          · next hone =>
            cases hz
            have hz : RS G (.agg z0.cells) (.agg (z0.cells.toList.map constCell)) := by
              have h1 : ∀ (j : Nat) (v : Value), z0.cells[j]? = some v → v.oneCell' = true := fun j v hj => (Array.all_eq_true_iff_forall_mem.1 hone) v (Array.mem_of_getElem? hj)
              refine .agg _ _ (by simp) h1 fun j v b hv hb => ?_
              rw [List.getElem?_map, Array.getElem?_toList, hv] at hb
              simp only [Option.map_some, Option.some.injEq] at hb
              subst hb
              exact rs_cell (h1 j v hv)
            obtain ⟨vs', f1, f2⟩ := fill_sound h places parts.toList _ _ hz (by simpa using hc)
            have hb : P.built T ((parts.map fun (i, x) => (i, a.eval x)).toList) = some vs' := by
              simp only [Program.built, hi, hu, hz0, hpl]
              rw [← f1]
              simp
            refine ⟨.agg vs', ?_, .inl ?_⟩
            · have := run_build w T (parts.map fun (i, x) => (i, a.eval x)) vs' hb
              simp [execOp, this]
            · have e : ev P st (.build T parts) = .agg (fillA st places (z0.cells.toList.map constCell) parts.toList) := by
                simp only [ev, zplP, hi, hu, hz0, hpl, hone, if_true]
              rw [e]
              exact f2
          · cases hz
        · cases hz
      · cases hz
  | extract x j =>
    obtain ⟨h1, h2⟩ := hc
    have hv := get_sound h rfl h1
    split at h2
    · next as e =>
      rw [e] at hv
      have hv := hv.rs rfl
      generalize hau : a.eval x = u at hv
      cases hv with
      | tup vs as hl hh =>
        have hj : j < vs.size := by omega
        refine ⟨vs[j], by simp [execOp, Instr.extract, hau, hj], .inl ?_⟩
        simp only [ev, e]
        exact hh j _ _ (Array.getElem?_eq_getElem hj) (by simp [h2])
    · exact h2.elim
  | call c =>
    obtain ⟨callee, args, argTypes⟩ := c
    simp only [evc] at hc
    split at hc
    · next x T hx hT =>
      obtain ⟨h1, h2⟩ := hc
      have hv := get_sound h rfl h1
      have ha : (args.map a.eval)[0]? = some (a.eval x) := by simp [hx]
      split at h2
      · next es e =>
        rw [e] at hv
        have hv := hv.sl
        split at h2
        · next el hu =>
          generalize a.eval x = u at hv ha
          cases hv with
          | nil => exact ⟨.int .i64 0, by simp [execOp, resolve, invoke, builtin, Builtin.len_, hT, ha, run_underlying hu, goInt], by simp only [ev, hx, e]; exact .inl (.imm _ rfl)⟩
          | sl g o sz cc es hsz hcc hcell => exact ⟨.int .i64 es.length, by simp [execOp, resolve, invoke, builtin, Builtin.len_, hT, ha, run_underlying hu, goInt], by simp only [ev, hx, e]; exact .inl (.imm _ rfl)⟩
        · exact h2.elim
      · next s e =>
        rw [e] at hv
        have hv := hv.imm.1
        split at h2
        · next hu =>
          rw [hv] at ha
          exact ⟨.int .i64 s.size, by simp [execOp, resolve, invoke, builtin, Builtin.len_, hT, ha, run_underlying hu, goInt], by simp only [ev, hx, e]; exact .inl (.imm _ rfl)⟩
        · exact h2.elim
      · exact h2.elim
    · exact hc.elim
  | _ => exact hc.elim
end Go.Proofs.YtldnkeackphilaaGreatDoor
