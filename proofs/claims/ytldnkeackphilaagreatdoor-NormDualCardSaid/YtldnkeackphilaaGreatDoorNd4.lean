/- The linear calculus: every operation that only reads. -/
import Derived.Test.YtldnkeackphilaaGreatDoorNd3
set_option linter.unusedSimpArgs false
set_option linter.unusedVariables false
namespace Go.Proofs.YtldnkeackphilaaGreatDoor.X
open Go.RowKit

def boundA (st : St) (o : Option Operand) (d : Nat) : Nat := match o with
  | none => d
  | some x => (intOfA (st.get x)).toNat
def boundC (st : St) (y : Bool) (o : Option Operand) (hi : Nat) : Prop := match o with
  | none => True
  | some x => st.ok y x ∧ isIntA (st.get x) ∧ 0 ≤ intOfA (st.get x) ∧ intOfA (st.get x) ≤ hi
def fillA (st : St) (pl : List (Nat × Nat)) : List AV → List (Nat × Operand) → List AV
  | cs, [] => cs
  | cs, p :: l => fillA st pl (spliceL cs (plcO pl[p.1]?) (st.get p.2).cells) l
def fillC (st : St) (y : Bool) (pl : List (Nat × Nat)) (n : Nat) : List (Nat × Operand) → Prop
  | [] => True
  | p :: l => st.ok y p.2 ∧ (st.get p.2).whole = true ∧ plcC pl[p.1]? (st.get p.2).cells.length n ∧ fillC st y pl n l
def pickA : AV → AV → AV → AV
  | .imm (.bool c), .imm (.bool p), .imm (.bool q) => .imm (.bool (if c then p else q))
  | .imm (.bool true), .imm (.bool p), .dead => .imm (.bool p)
  | .imm (.bool false), .dead, .imm (.bool q) => .imm (.bool q)
  | _, _, _ => .dead
def pickC (st : St) (y : Bool) (a b : Operand) : AV → AV → AV → Prop
  | .imm (.bool c), .imm (.bool _), .imm (.bool _) => st.ok (y && c) a ∧ st.ok (y && !c) b
  | .imm (.bool true), .imm (.bool _), .dead => st.ok y a
  | .imm (.bool false), .dead, .imm (.bool _) => st.ok y b
  | _, _, _ => y = false
def adrC : AV → Prop
  | .ref _ _ => True
  | .elt _ _ _ => True
  | .ptr _ => True
  | _ => False
def fadA : Option (Nat × TypeId) → AV → AV
  | some p, .ref n off => .ref n (off + p.1)
  | some p, .elt n i j => .elt n i (j + p.1)
  | some p, .ptr cs => .ptr (cs.drop p.1)
  | _, _ => .dead
def fadC (P : Program) : Option (Nat × TypeId) → AV → Prop
  | some p, a => szP P p.2 ≠ 0 ∧ adrC a
  | _, _ => False
def fldA (P : Program) : Option (Nat × TypeId) → AV → AV
  | some p, .agg cs => ldA P p.2 (cs.drop p.1)
  | _, _ => .dead
def fldC (P : Program) : Option (Nat × TypeId) → AV → Prop
  | some p, .agg cs => ldC P p.2 (cs.drop p.1)
  | _, _ => False
def rowSz (P : Program) (e : TypeId) : Option Blk → Prop
  | some (.row E _) => szP P E = szP P e
  | _ => False
def idxA (i : AV) : AV → AV
  | .sl es => .ptr (es.getD (intOfA i).toNat [])
  | .rw n lo _ => .elt n (lo + (intOfA i).toNat) 0
  | _ => .dead
def idxC (P : Program) (st : St) (y : Bool) (i : AV) (e : TypeId) : AV → Prop
  | .sl es => y = true → 0 ≤ intOfA i ∧ intOfA i < es.length ∧ (es.getD (intOfA i).toNat []).length = szP P e
  | .rw n _ len => (y = true → 0 ≤ intOfA i ∧ intOfA i < len) ∧ rowSz P e (st.blk n)
  | _ => False
def chrA (i : AV) : AV → AV
  | .imm (.string s) => .imm (.int .u8 ((s.data[(intOfA i).toNat]?).getD 0).toNat)
  | _ => .dead
def chrC (y : Bool) (i : AV) : AV → Prop
  | .imm (.string s) => y = true → 0 ≤ intOfA i ∧ intOfA i < s.size
  | _ => False
def sliceA (st : St) (lo hi : Option Operand) : AV → AV
  | .imm (.string s) => .imm (.string (s.extract (boundA st lo 0) (boundA st hi s.size)))
  | .sl es => .sl ((es.take (boundA st hi es.length)).drop (boundA st lo 0))
  | .rw n l len => .rw n (l + boundA st lo 0) (boundA st hi len - boundA st lo 0)
  | .nl => .nl
  | _ => .dead
def sliceC (P : Program) (st : St) (y : Bool) (T : TypeId) (lo hi : Option Operand) : AV → Prop
  | .imm (.string s) => strP P T = true ∧ boundC st y hi s.size ∧ boundC st y lo (boundA st hi s.size)
  | .sl es => ∃ e, elemP P T = some e ∧ infP P e = true ∧ boundC st y hi es.length ∧ boundC st y lo (boundA st hi es.length) ∧ ∀ x ∈ es, x.length = szP P e
  | .rw n _ len => ∃ e, elemP P T = some e ∧ infP P e = true ∧ boundC st y hi len ∧ boundC st y lo (boundA st hi len) ∧ rowSz P e (st.blk n)
  | .nl => ∃ e, elemP P T = some e ∧ infP P e = true ∧ boundC st y hi 0 ∧ boundC st y lo (boundA st hi 0)
  | _ => False
def cvA (o : Option IntKind) : AV → AV
  | .imm (.int _ n) => match o with
    | some k => .imm (.int k (k.wrap n))
    | none => .dead
  | .imm (.string s) => .imm (.string s)
  | _ => .dead
def cvC (P : Program) (S D : TypeId) : AV → Prop
  | .imm (.int _ _) => (kindP P D).isSome = true ∧ undP P S = true
  | .imm (.string _) => strP P D = true ∧ strP P S = true
  | _ => False
def tupA (j : Nat) : AV → AV
  | .tup as => as.getD j .dead
  | _ => .dead
def tupC (j : Nat) : AV → Prop
  | .tup as => j < as.length
  | _ => False
def lenA : AV → AV
  | .sl es => .imm (.int .i64 es.length)
  | .rw _ _ len => .imm (.int .i64 len)
  | .nl => .imm (.int .i64 0)
  | .imm (.string s) => .imm (.int .i64 s.size)
  | _ => .dead
def lenC (P : Program) (T : TypeId) : AV → Prop
  | .sl _ => (elemP P T).isSome = true
  | .rw _ _ _ => (elemP P T).isSome = true
  | .nl => (elemP P T).isSome = true
  | .imm (.string _) => strP P T = true
  | _ => False
def bldA (st : St) (l : List (Nat × Operand)) : Option (List Value × List (Nat × Nat)) → AV
  | some z => .agg (fillA st z.2 (z.1.map constX) l)
  | none => .dead
def bldC (st : St) (y : Bool) (l : List (Nat × Operand)) : Option (List Value × List (Nat × Nat)) → Prop
  | some z => fillC st y z.2 z.1.length l
  | none => False
def zroP (P : Program) (T : TypeId) : Option AV := match zeroP P T with
  | some z => if z.oneCell' then some (constX z) else match z with
    | .agg vs => if vs.all (·.oneCell') then some (.agg (vs.toList.map constX)) else none
    | _ => none
  | none => none
def tasA (T : TypeId) (ok : Bool) (z : Option AV) : AV → AV
  | .ifc t a => if t = T then (if ok then .tup [a, .imm (.bool true)] else a) else (match z with
    | some z => if ok then .tup [z, .imm (.bool false)] else .dead
    | none => .dead)
  | .imm .nilIface => match z with
    | some z => if ok then .tup [z, .imm (.bool false)] else .dead
    | none => .dead
  | _ => .dead
def tasC (P : Program) (T : TypeId) (ok : Bool) : AV → Prop
  | .ifc t _ => undP P T = true ∧ ifcP P T = false ∧ (t = T ∨ ok = true) ∧ (zroP P T).isSome = true
  | .imm .nilIface => undP P T = true ∧ ifcP P T = false ∧ ok = true ∧ (zroP P T).isSome = true
  | _ => False
def ifc0 (P : Program) (T : TypeId) : Prop := ifcP P T = false ∧ undP P T = true
def ev (P : Program) (st : St) : Op → AV
  | .move x => st.get x
  | .assign x => st.get x
  | .pick c a b => pickA (st.get c) (st.get a) (st.get b)
  | .nilCheck x => st.get x
  | .load T x => ldA P T (st.at (st.get x))
  | .fieldAddr S x f => fadA (fldP P S f) (st.get x)
  | .field S x f => fldA P (fldP P S f) (st.get x)
  | .indexAddr _ x i => idxA (st.get i) (st.get x)
  | .index _ x i => chrA (st.get i) (st.get x)
  | .slice _ x lo hi _ => sliceA st lo hi (st.get x)
  | .binOp op _ x y _ => binX op (st.get x) (st.get y)
  | .unOp op _ x => unA op (st.get x)
  | .convert _ dst x => cvA (kindP P dst) (st.get x)
  | .makeInterface T x => .ifc T (st.get x)
  | .extract x j => tupA j (st.get x)
  | .build T parts => bldA st parts.toList (zplP P T)
  | .typeAssert x _ T ok => tasA T ok (zroP P T) (st.get x)
  | .makeFunc (.func f) _ cs => .fnc f (cs.toList.map st.get)
  | .call c => match c.callee, c.args[0]? with
    | .builtin .len, some x => lenA (st.get x)
    | _, _ => .dead
  | _ => .dead
def evc (P : Program) (st : St) (y : Bool) : Op → Prop
  | .move x => st.ok y x
  | .assign x => st.ok y x
  | .pick c a b => st.ok y c ∧ pickC st y a b (st.get c) (st.get a) (st.get b)
  | .nilCheck x => st.ok y x ∧ adrC (st.get x)
  | .load T x => st.ok y x ∧ st.atC y (st.get x) ∧ (y = true → ldC P T (st.at (st.get x)))
  | .fieldAddr S x f => st.ok y x ∧ fadC P (fldP P S f) (st.get x)
  | .field S x f => st.ok y x ∧ fldC P (fldP P S f) (st.get x)
  | .indexAddr T x i => st.ok y x ∧ st.ok y i ∧ isIntA (st.get i) ∧ ∃ e, elemP P T = some e ∧ infP P e = true ∧ idxC P st y (st.get i) e (st.get x)
  | .index T x i => st.ok y x ∧ st.ok y i ∧ isIntA (st.get i) ∧ strP P T = true ∧ chrC y (st.get i) (st.get x)
  | .slice T x lo hi mx => st.ok y x ∧ mx.isNone = true ∧ sliceC P st y T lo hi (st.get x)
  | .binOp op T x z _ => st.ok y x ∧ st.ok y z ∧ binXC P op T (isConstO x || isConstO z) (st.get x) (st.get z)
  | .unOp op _ x => st.ok y x ∧ unC op (st.get x)
  | .convert src dst x => st.ok y x ∧ cvC P src dst (st.get x)
  | .makeInterface T x => st.ok y x ∧ ifc0 P T
  | .extract x j => st.ok y x ∧ tupC j (st.get x)
  | .build T parts => bldC st y parts.toList (zplP P T)
  | .typeAssert x _ T ok => st.ok y x ∧ tasC P T ok (st.get x)
  | .makeFunc (.func _) first cs => first.size = 0 ∧ ∀ x ∈ cs.toList, st.ok y x
  | .call c => match c.callee, c.args[0]?, c.argTypes[0]? with
    | .builtin .len, some x, some T => st.ok y x ∧ lenC P T (st.get x)
    | _, _, _ => False
  | _ => False
section
variable {P : Program} {N : Nat} {C : Cx} {G : Gh} {ν : Nu} {w : World} {st : St}
theorem isInt_valN {v : Value} {a : AV} (h : RN G ν v a) (hi : isIntA a) : ∃ k, v = .int k (intOfA a) := by
  unfold isIntA at hi
  split at hi
  · exact ⟨_, h.immI.1⟩
  · exact hi.elim
theorem run_boundsN {a : Act} (h : Inv P N C G ν w a.tmps st) (isS : Bool) (len cap : Nat) (lo hi : Option Operand) (hlc : len ≤ cap) (h1 : boundC st true hi len) (h2 : boundC st true lo (boundA st hi len)) :
    (Instr.sliceBounds isS len cap (lo.map a.eval) (hi.map a.eval) none).run P w = .ok (boundA st lo 0, boundA st hi len, cap) w ∧ boundA st lo 0 ≤ boundA st hi len ∧ boundA st hi len ≤ len := by
  have key : ∀ (x : Operand) (m c d : Nat) (code : BoundsCode), m ≤ c → boundC st true (some x) m → (Instr.sliceBound (a.eval x) c code).run P w = .ok (boundA st (some x) d) w ∧ boundA st (some x) d ≤ m := by
    intro x m c d code hmc hb
    obtain ⟨b1, b2, b3, b4⟩ := hb
    obtain ⟨k, hk⟩ := isInt_valN (get_sound h rfl b1) b2
    simp only [boundA]
    exact ⟨by rw [hk]; exact run_bound code b3 (by omega), by omega⟩
  have hhi : boundA st hi len ≤ len := by
    cases hi with
    | none => exact Nat.le_refl _
    | some x => exact (key x len len len .sliceB (Nat.le_refl _) h1).2
  have hlo : boundA st lo 0 ≤ boundA st hi len := by
    cases lo with
    | none => exact Nat.zero_le _
    | some x => exact (key x _ _ 0 .sliceB (Nat.le_refl _) h2).2
  refine ⟨?_, hlo, hhi⟩
  cases hi with
  | none =>
    cases lo with
    | none => rfl
    | some x =>
      have k2 := (key x len len 0 .sliceB (Nat.le_refl _) h2).1
      simp [Instr.sliceBounds, k2, boundA]
  | some z =>
    have k1 := (key z len cap len (if isS then .sliceAcap else .sliceAlen) hlc h1).1
    cases lo with
    | none =>
      simp only [Instr.sliceBounds, Option.map_some, Option.map_none, Sem.run_bind, k1, Result.andThen_ok, Sem.run_pure]
      rfl
    | some x =>
      have k2 := (key x (boundA st (some z) len) (boundA st (some z) len) 0 .sliceB (Nat.le_refl _) h2).1
      simp only [Instr.sliceBounds, Option.map_some, Sem.run_bind, k1, Result.andThen_ok, Sem.run_pure, Option.isSome_none, Bool.false_eq_true, if_false, k2]
theorem RN.splice {v : Value} {a : AV} {vs : Array Value} {cs : List AV} {off : Nat} (h : RN G ν (.agg vs) (.agg cs)) (hv : RN G ν v a) (hw : a.whole = true) (hoff : off + a.cells.length ≤ cs.length) : RN G ν (.agg (setsA vs off v.cells.toList)) (.agg (spliceL cs off a.cells)) := by
  obtain ⟨hsz, hcell⟩ := hv.cells hw
  obtain ⟨vs', e, hl, h1, h⟩ := h.aggI
  cases e
  have hlen : off + v.cells.toList.length ≤ vs.size := by simp [hsz, hl]; omega
  have key : ∀ (j : Nat) u, (setsA vs off v.cells.toList)[j]? = some u → (∀ b, (spliceL cs off a.cells)[j]? = some b → RN G ν u b) ∧ u.oneCell' = true := by
    intro j u hu
    rw [setsA_get _ _ _ hlen] at hu
    have hs := splice_get hoff j
    simp only [Array.length_toList, hsz] at hu
    by_cases hj : off ≤ j ∧ j < off + a.cells.length
    · rw [if_pos hj] at hu hs
      rw [Array.getElem?_toList] at hu
      have hlt : j - off < a.cells.length := by omega
      refine ⟨fun b hb => ?_, (hcell _ u _ hu (List.getElem?_eq_getElem hlt)).2⟩
      rw [hs] at hb
      exact (hcell _ u b hu hb).1
    · rw [if_neg hj] at hu hs
      refine ⟨fun b hb => ?_, h1 j u hu⟩
      rw [hs] at hb
      exact h j u b hu hb
  exact .agg _ _ (by rw [setsA_size, splice_len hoff, hl]) (fun j u hu => (key j u hu).2) fun j u b hu hb => (key j u hu).1 b hb
theorem fill_sound {a : Act} (h : Inv P N C G ν w a.tmps st) (pl : List (Nat × Nat)) : ∀ (l : List (Nat × Operand)) (cs : List AV) (vs : Array Value), RN G ν (.agg vs) (.agg cs) → fillC st true pl cs.length l →
    ∃ vs', Instr.fill (pl.toArray[·]?) vs (l.map fun p => (p.1, a.eval p.2)) = some vs' ∧ RN G ν (.agg vs') (.agg (fillA st pl cs l))
  | [], cs, vs, hr, _ => ⟨vs, rfl, hr⟩
  | p :: l, cs, vs, hr, hc => by
    obtain ⟨h1, h3, h4, h5⟩ := hc
    have hv := get_sound h rfl h1
    obtain ⟨hsz, -⟩ := hv.cells h3
    cases hp : pl[p.1]? with
    | none => rw [hp] at h4; exact h4.elim
    | some q =>
      rw [hp] at h4
      obtain ⟨h6, h7⟩ : (st.get p.2).cells.length = q.2 ∧ q.1 + (st.get p.2).cells.length ≤ cs.length := h4
      have hl : vs.size = cs.length := by obtain ⟨_, e, hl, _⟩ := hr.aggI; cases e; exact hl
      have hs := hr.splice hv h3 h7
      obtain ⟨vs', f1, f2⟩ := fill_sound h pl l _ _ hs (by rw [splice_len h7]; exact h5)
      refine ⟨vs', ?_, ?_⟩
      · have e : (fun x : Nat => pl.toArray[x]?) = fun x : Nat => pl[x]? := by funext x; simp
        rw [e] at f1 ⊢
        simp only [List.map_cons, Instr.fill, hp]
        rw [if_neg (by simp [hsz, h6, hl]; omega)]
        rw [← f1]
        have := fold_sets q.1 (a.eval p.2).cells.toList 0 vs
        rw [Nat.add_zero] at this
        rw [← this, ← Array.foldl_toList, Array.toList_zipIdx]
      · simp only [fillA, hp, plcO]
        exact f2
theorem elem_und {T e : TypeId} (h : elemP P T = some e) : P.underlying T = some (.slice e) := by
  unfold elemP at h
  split at h
  · next e' he => cases h; exact he
  · cases h
theorem fld_und {S : TypeId} {f : Nat} {p : Nat × TypeId} (h : fldP P S f = some p) : ∃ fs fl, P.underlying S = some (.struct fs) ∧ fs[f]? = some fl ∧ p = (fl.offset, fl.type) := by
  unfold fldP at h
  split at h
  · next fs hu =>
    obtain ⟨fl, h1, h2⟩ := Option.map_eq_some_iff.1 h
    exact ⟨fs, fl, hu, h1, h2.symm⟩
  · cases h
theorem zro_sound {T : TypeId} {a : AV} (h : zroP P T = some a) : ∃ z, (zeroValue T).run P w = .ok z w ∧ RN G ν z a := by
  unfold zroP at h
  cases hz : zeroP P T with
  | none => rw [hz] at h; cases h
  | some z =>
    rw [hz] at h
    simp only at h
    have hrun : (zeroValue T).run P w = .ok z w := by
      unfold zeroP at hz
      cases hi : P.info? T with
      | none => simp [hi] at hz
      | some i =>
        have hz' : i.zero = some z := by simpa [hi] using hz
        simp [zeroValue, typeInfo, hi, hz']
    refine ⟨z, hrun, ?_⟩
    split at h
    · next h1 => cases h; exact rn_cell h1
    · split at h
      · split at h
        · next h2 => cases h; exact rn_const (.inr ⟨_, rfl, h2⟩)
        · cases h
      · cases h
theorem pair_rn {v u : Value} {a b : AV} (h : RN G ν v a) (k : RN G ν u b) : RN G ν (.tuple #[v, u]) (.tup [a, b]) := by
  refine .tup _ _ rfl fun j x c hx hc => ?_
  match j with
  | 0 => simp at hx hc; subst hx hc; exact h
  | 1 => simp at hx hc; subst hx hc; exact k
  | j + 2 => simp at hc
theorem ev_sound {a : Act} {o : Oper} (h : Inv P N C G ν w a.tmps st) (hc : evc P st true o.op) : ∃ v, (execOp a.eval o).run P w = .ok (.value v) w ∧ RN G ν v (ev P st o.op) := by
  obtain ⟨dst, op, type, pos, after, guard⟩ := o
  simp only at hc
  cases op with
  | move x => exact ⟨_, rfl, get_sound h rfl hc⟩
  | assign x => exact ⟨_, rfl, get_sound h rfl hc⟩
  | pick c x y =>
    obtain ⟨h1, h2⟩ := hc
    have hcv := get_sound h rfl h1
    unfold pickC at h2
    split at h2
    · next cb p q e1 e2 e3 =>
      obtain ⟨h3, h4⟩ := h2
      rw [e1] at hcv
      have hcv := hcv.immI.1
      refine ⟨.bool (if cb then p else q), ?_, ?_⟩
      · cases cb
        · have hq := get_sound (y := true) h rfl (by simpa using h4)
          rw [e3] at hq
          have hq := hq.immI.1
          simp [execOp, hcv, asBool, hq]
        · have hp := get_sound (y := true) h rfl (by simpa using h3)
          rw [e2] at hp
          have hp := hp.immI.1
          simp [execOp, hcv, asBool, hp]
      · simp only [ev, e1, e2, e3, pickA]
        exact .sh (.imm _ rfl)
    · next p e1 e2 e3 =>
      rw [e1] at hcv
      have hcv := hcv.immI.1
      have hp := get_sound (y := true) h rfl h2
      rw [e2] at hp
      have hp := hp.immI.1
      refine ⟨.bool p, by simp [execOp, hcv, asBool, hp], ?_⟩
      simp only [ev, e1, e2, e3, pickA]
      exact .sh (.imm _ rfl)
    · next q e1 e2 e3 =>
      rw [e1] at hcv
      have hcv := hcv.immI.1
      have hq := get_sound (y := true) h rfl h2
      rw [e3] at hq
      have hq := hq.immI.1
      refine ⟨.bool q, by simp [execOp, hcv, asBool, hq], ?_⟩
      simp only [ev, e1, e2, e3, pickA]
      exact .sh (.imm _ rfl)
    · cases h2
  | nilCheck x =>
    obtain ⟨h1, h2⟩ := hc
    have hv := get_sound h rfl h1
    obtain ⟨g, o, e⟩ : ∃ g o, a.eval x = .pointer (some ⟨g, o, none⟩) := by
      unfold adrC at h2
      split at h2
      · next r off e => rw [e] at hv; obtain ⟨g, _, _, _, e1⟩ := id hv.refI; exact ⟨g, _, e1⟩
      · next r off j e => rw [e] at hv; obtain ⟨g, _, _, _, e1⟩ := id hv.eltI; exact ⟨g, _, e1⟩
      · next cs e => rw [e] at hv; obtain ⟨g, o, e1, -⟩ := id hv.ptrI; exact ⟨g, _, e1⟩
      · exact h2.elim
    exact ⟨a.eval x, by simp [execOp, e], hv⟩
  | load T x =>
    obtain ⟨h1, h2, h3⟩ := hc
    have hv := get_sound h rfl h1
    obtain ⟨g, o, e1, hl⟩ := at_sound h hv h2
    obtain ⟨v, k1, k2⟩ := run_ldN (P := P) hl (h3 rfl)
    exact ⟨v, by simp [execOp, e1, k1], k2⟩
  | fieldAddr S x f =>
    obtain ⟨h1, h2⟩ := hc
    have hv := get_sound h rfl h1
    simp only [ev]
    unfold fadC at h2
    split at h2
    · next p b hp =>
      obtain ⟨fs, fl, hu, hf, rfl⟩ := fld_und hp
      obtain ⟨h3, h4⟩ := h2
      have hsz : (sizeOf fl.type).run P w = .ok (szP P fl.type) w ∧ szP P fl.type ≠ 0 := by
        refine ⟨?_, h3⟩
        cases hi : P.info? fl.type with
        | none => simp [szP, hi] at h3
        | some i => simp [sizeOf, typeInfo, hi, szP]
      have hadd : ∀ g o, (fieldPlace ⟨g, o, none⟩ fl).run P w = .ok ⟨g, o + fl.offset, none⟩ w := by
        intro g o
        simp [fieldPlace, hsz.1, hsz.2, Addr.add_mid]
      rw [hp]
      unfold adrC at h4
      split at h4
      · next r off e =>
        rw [e] at hv
        obtain ⟨g, cap, sz, e1, e2⟩ := id hv.refI
        exact ⟨.pointer (some ⟨g, off + fl.offset, none⟩), by simp [execOp, e2, Instr.fieldAt, run_underlying hu, hf, Instr.sureAddr, hadd], by rw [e]; exact .ref r _ g cap sz e1⟩
      · next r i j e =>
        rw [e] at hv
        obtain ⟨g, cap, sz, e1, e2⟩ := id hv.eltI
        exact ⟨.pointer (some ⟨g, i * sz + j + fl.offset, none⟩), by simp [execOp, e2, Instr.fieldAt, run_underlying hu, hf, Instr.sureAddr, hadd], by rw [e, Nat.add_assoc]; exact .elt r i _ g cap sz e1⟩
      · next cs e =>
        rw [e] at hv
        obtain ⟨g, o, e1, e2⟩ := id hv.ptrI
        refine ⟨.pointer (some ⟨g, o + fl.offset, none⟩), by simp [execOp, e1, Instr.fieldAt, run_underlying hu, hf, Instr.sureAddr, hadd], ?_⟩
        rw [e]
        exact .sh (.ptr g _ _ fun j b hj => by rw [List.getElem?_drop] at hj; rw [Nat.add_assoc]; exact e2 _ b hj)
      · exact h4.elim
    · exact h2.elim
  | field S x f =>
    obtain ⟨h1, h2⟩ := hc
    have hv := get_sound h rfl h1
    simp only [ev]
    unfold fldC at h2
    split at h2
    · next p cs hp e =>
      obtain ⟨fs, fl, hu, hf, rfl⟩ := fld_und hp
      rw [e] at hv
      obtain ⟨vs, e1, -⟩ := id hv.aggI
      rw [e1] at hv
      obtain ⟨v, k1, k2⟩ := run_partN (P := P) (w := w) hv h2
      exact ⟨v, by simp [execOp, e1, Instr.field, run_underlying hu, hf, asAgg, k1], by rw [hp, e]; exact k2⟩
    · exact h2.elim
  | indexAddr T x i =>
    obtain ⟨h1, h2, h3, e, h5, h6, h4⟩ := hc
    have hv := get_sound h rfl h1
    obtain ⟨k, hk⟩ := isInt_valN (get_sound h rfl h2) h3
    have hu := elem_und h5
    obtain ⟨i0, hi0⟩ : ∃ i, P.info? e = some i := Option.isSome_iff_exists.1 h6
    have hs : szP P e = i0.size := by simp [szP, hi0]
    simp only [ev]
    unfold idxC at h4
    split at h4
    · next es hx =>
      obtain ⟨b1, b2, b3⟩ := h4 rfl
      rw [hx] at hv ⊢
      have hv := hv.slI
      have hlt : (intOfA (st.get i)).toNat < es.length := by omega
      have hget : es.getD (intOfA (st.get i)).toNat [] = es[(intOfA (st.get i)).toNat] := by simp [hlt]
      generalize hau : a.eval x = u at hv
      cases hv with
      | nil => simp at hlt
      | sl g o sz c es hsz hcc hcell =>
        have hmem := List.getElem_mem hlt
        have hsz' : sz = i0.size := by rw [← hsz _ hmem, ← hget, b3, hs]
        refine ⟨.pointer (some ⟨g, o + (intOfA (st.get i)).toNat * i0.size, none⟩), ?_, ?_⟩
        · simp [execOp, Instr.indexAt, hk, hau, asIntOf, run_underlying hu, b1, b2, sizeOf, typeInfo, hi0, Addr.add_mid]
        · refine .sh (.ptr g _ _ fun j b hj => ?_)
          rw [hget] at hj
          rw [← hsz']
          exact hcell _ _ j b (List.getElem?_eq_getElem hlt) hj
    · next n lo len hx =>
      obtain ⟨hb, hrs⟩ := h4
      obtain ⟨b1, b2⟩ := hb rfl
      rw [hx] at hv ⊢
      have hlt : (intOfA (st.get i)).toNat < len := by omega
      rcases hv.rwI with ⟨cap, sz, q1, q2, rfl, rfl⟩ | ⟨g, cap, sz, o, q1, q2, q3, q4⟩
      · omega
      · have hsz : sz = i0.size := by
          cases hbk : st.blk n with
          | none => rw [hbk] at hrs; exact hrs.elim
          | some B =>
            rw [hbk] at hrs
            cases B with
            | box => exact hrs.elim
            | row E es =>
              have hrs : szP P E = szP P e := hrs
              obtain ⟨-, hr⟩ := h.blks n _ hbk
              rcases hr with ⟨cap', r1, _⟩ | ⟨g', cap', r1, _⟩ <;> rw [q1] at r1 <;> cases r1 <;> rw [hrs, hs]
        refine ⟨.pointer (some ⟨g, o + (intOfA (st.get i)).toNat * i0.size, none⟩), ?_, ?_⟩
        · simp [execOp, Instr.indexAt, hk, q2, asIntOf, run_underlying hu, b1, b2, sizeOf, typeInfo, hi0, Addr.add_mid]
        · have := RN.elt (G := G) (ν := ν) n (lo + (intOfA (st.get i)).toNat) 0 g cap sz q1
          rw [Nat.add_zero, Nat.add_mul, ← q4 (.inl (by omega)), hsz] at this
          exact this
    · exact h4.elim
  | index T x i =>
    obtain ⟨h1, h2, h3, h5, h4⟩ := hc
    have hv := get_sound h rfl h1
    obtain ⟨k, hk⟩ := isInt_valN (get_sound h rfl h2) h3
    have hu := str_und h5
    simp only [ev]
    unfold chrC at h4
    split at h4
    · next s hx =>
      obtain ⟨b1, b2⟩ := h4 rfl
      rw [hx] at hv ⊢
      have hv := hv.immI.1
      have hlt : (intOfA (st.get i)).toNat < s.size := by omega
      refine ⟨.int .u8 (s[(intOfA (st.get i)).toNat]).toNat, ?_, ?_⟩
      · have hg : s[(intOfA (st.get i)).toNat]? = some s[(intOfA (st.get i)).toNat] := getElem?_pos s _ hlt
        simp [execOp, Instr.index, hk, asIntOf, run_underlying hu, hv, b1, hg]
      · have hd : s.data[(intOfA (st.get i)).toNat]? = some (s[(intOfA (st.get i)).toNat]) := by
          rw [Array.getElem?_eq_getElem (by exact hlt)]
          rfl
        simp only [chrA, hd]
        exact .sh (.imm _ rfl)
    · exact h4.elim
  | slice T x lo hi mx =>
    obtain ⟨h1, h2, h3⟩ := hc
    have hv := get_sound h rfl h1
    obtain rfl : mx = none := by cases mx <;> first | rfl | cases h2
    simp only [ev]
    unfold sliceC at h3
    split at h3
    · next s hx =>
      obtain ⟨hu, b1, b2⟩ := h3
      have hu := str_und hu
      rw [hx] at hv ⊢
      have hv := hv.immI.1
      obtain ⟨r1, -, -⟩ := run_boundsN h false s.size s.size lo hi (Nat.le_refl _) b1 b2
      refine ⟨.string (s.extract (boundA st lo 0) (boundA st hi s.size)), ?_, .sh (.imm _ rfl)⟩
      simp only [execOp, Instr.sliceAt, Sem.run_bind, run_underlying hu, Result.andThen_ok, Instr.slice, hv, Option.map_none, Option.isSome_none, Bool.false_eq_true, if_false, Sem.run_pure, r1]
    · next es hx =>
      obtain ⟨e, hu, h5, b1, b2, b3⟩ := h3
      have hu := elem_und hu
      rw [hx] at hv ⊢
      have hv := hv.slI
      obtain ⟨i0, hi0⟩ : ∃ i, P.info? e = some i := Option.isSome_iff_exists.1 h5
      have hs : szP P e = i0.size := by simp [szP, hi0]
      obtain ⟨A, n, c, hu2⟩ : ∃ A n c, a.eval x = .slice A n c := by
        generalize a.eval x = u at hv
        cases hv <;> exact ⟨_, _, _, rfl⟩
      rw [hu2] at hv
      obtain ⟨rfl, hnc, -⟩ := hv.flat b3
      obtain ⟨r1, q1, q2⟩ := run_boundsN h true es.length c lo hi hnc b1 b2
      refine ⟨.slice (if c = boundA st lo 0 then A else Option.map (fun x => x.add (boundA st lo 0 * i0.size)) A) (boundA st hi es.length - boundA st lo 0) (c - boundA st lo 0), by simp only [execOp, Instr.sliceAt, Sem.run_bind, run_underlying hu, Result.andThen_ok, Instr.slice, hu2, Sem.run_pure, Option.map_none, r1, sizeOf, typeInfo, run_program, hi0], .sh ?_⟩
      simp only [sliceA]
      generalize boundA st lo 0 = l at *
      generalize boundA st hi es.length = r at *
      have hlen : ((es.take r).drop l).length = r - l := by simp; omega
      rcases hv.slice_inv with ⟨rfl, rfl⟩ | ⟨g, o, sz, rfl, hsz, hcc, hcell⟩
      · have hl0 : l = 0 := by simp at q2; omega
        have hr0 : r = 0 := by simp at q2; omega
        subst hl0 hr0
        simp
        exact .nil
      · have hcc' : (if c = l then some (⟨g, o, none⟩ : Addr) else Option.map (fun x : Addr => x.add (l * i0.size)) (some ⟨g, o, none⟩)) = some ⟨g, if c = l then o else o + l * i0.size, none⟩ := by
          split
          · rfl
          · simp [Addr.add_mid]
        rw [hcc', ← hlen]
        refine .sl g _ sz _ _ (fun e he => hsz e (List.mem_of_mem_take (List.mem_of_mem_drop he))) (by rw [hlen]; omega) fun i e j b hi hj => ?_
        have h6 := drop_flat (sz := sz) l r hi
        have h7 := hcell _ e j b h6 hj
        have hil : i < r - l := by rw [← hlen]; exact (List.getElem?_eq_some_iff.1 hi).1
        have hsz' : sz = i0.size := by
          have hm := List.mem_of_getElem? h6
          rw [← hsz e hm, b3 e hm, hs]
        rw [if_neg (by omega), ← hsz']
        rw [Nat.add_mul, ← Nat.add_assoc] at h7
        exact h7
    · next n l0 len hx =>
      obtain ⟨e, hu, h5, b1, b2, hrs⟩ := h3
      have hu := elem_und hu
      rw [hx] at hv ⊢
      obtain ⟨i0, hi0⟩ : ∃ i, P.info? e = some i := Option.isSome_iff_exists.1 h5
      have hs : szP P e = i0.size := by simp [szP, hi0]
      rcases hv.rwI with ⟨cap, sz, q1, q2, rfl, rfl⟩ | ⟨g, cap, sz, o, q1, q2, q3, q4⟩
      · obtain ⟨r1, p1, p2⟩ := run_boundsN h true 0 0 lo hi (Nat.le_refl _) b1 b2
        simp only [sliceA]
        generalize boundA st lo 0 = l at *
        generalize boundA st hi 0 = r at *
        obtain rfl : r = 0 := by omega
        obtain rfl : l = 0 := by omega
        exact ⟨.slice none 0 0, by simp only [execOp, Instr.sliceAt, Sem.run_bind, run_underlying hu, Result.andThen_ok, Instr.slice, q2, Sem.run_pure, Option.map_none, r1, sizeOf, typeInfo, run_program, hi0]; rfl, .rw0 n cap sz q1⟩
      · have hsz : sz = i0.size := by
          cases hbk : st.blk n with
          | none => rw [hbk] at hrs; exact hrs.elim
          | some B =>
            rw [hbk] at hrs
            cases B with
            | box => exact hrs.elim
            | row E es =>
              have hrs : szP P E = szP P e := hrs
              obtain ⟨-, hr⟩ := h.blks n _ hbk
              rcases hr with ⟨cap', k1, _⟩ | ⟨g', cap', k1, _⟩ <;> rw [q1] at k1 <;> cases k1 <;> rw [hrs, hs]
        obtain ⟨r1, p1, p2⟩ := run_boundsN h true len (cap - l0) lo hi (by omega) b1 b2
        simp only [sliceA]
        generalize boundA st lo 0 = l at *
        generalize boundA st hi len = r at *
        refine ⟨.slice (some ⟨g, if cap - l0 = l then o else o + l * i0.size, none⟩) (r - l) (cap - l0 - l), ?_, ?_⟩
        · simp only [execOp, Instr.sliceAt, Sem.run_bind, run_underlying hu, Result.andThen_ok, Instr.slice, q2, Sem.run_pure, Option.map_none, r1, sizeOf, typeInfo, run_program, hi0]
          by_cases e0 : cap - l0 = l
          · simp [e0]
          · simp [e0, Addr.add_mid]
        · have := RN.rw (G := G) (ν := ν) n (l0 + l) (r - l) g cap sz (if cap - l0 = l then o else o + l * i0.size) q1 (by omega) (fun hlt => by
            by_cases e0 : cap - l0 = l
            · rw [if_pos e0, q4 (by omega)]
              have h1 : l0 = 0 := by omega
              have h2 : l = 0 := by omega
              rw [h1, h2, Nat.zero_add]
            · rw [if_neg e0, q4 (by omega), hsz, ← Nat.add_mul])
          rw [← Nat.sub_sub] at this
          exact this
    · next hx =>
      obtain ⟨e, hu, h5, b1, b2⟩ := h3
      have hu := elem_und hu
      rw [hx] at hv ⊢
      obtain ⟨i0, hi0⟩ : ∃ i, P.info? e = some i := Option.isSome_iff_exists.1 h5
      have q2 := hv.nlI
      obtain ⟨r1, p1, p2⟩ := run_boundsN h true 0 0 lo hi (Nat.le_refl _) b1 b2
      simp only [sliceA]
      generalize boundA st lo 0 = l at *
      generalize boundA st hi 0 = r at *
      obtain rfl : r = 0 := by omega
      obtain rfl : l = 0 := by omega
      exact ⟨.slice none 0 0, by simp only [execOp, Instr.sliceAt, Sem.run_bind, run_underlying hu, Result.andThen_ok, Instr.slice, q2, Sem.run_pure, Option.map_none, r1, sizeOf, typeInfo, run_program, hi0]; rfl, .nl⟩
    · exact h3.elim
  | binOp op T x z zT =>
    obtain ⟨h1, h2, h3⟩ := hc
    obtain ⟨v, k1, k2⟩ := run_binX (P := P) (w := w) (get_sound h rfl h1) (get_sound h rfl h2) h3
    refine ⟨v, ?_, k2⟩
    simp only [execOp, Sem.run_bind] at k1 ⊢
    rw [k1]
    rfl
  | unOp op T x =>
    obtain ⟨h1, h2⟩ := hc
    have hv := get_sound h rfl h1
    simp only [ev]
    unfold unC at h2
    split at h2
    · next b e =>
      subst h2
      rw [e] at hv ⊢
      have hv := hv.immI.1
      exact ⟨.bool (!b), by simp [execOp, hv, Op.unary], .sh (.imm _ rfl)⟩
    · next k n e =>
      subst h2
      rw [e] at hv ⊢
      have hv := hv.immI.1
      refine ⟨.int k (k.wrap (0 - n)), ?_, .sh (.imm _ rfl)⟩
      simp [execOp, hv, Op.unary, Op.intArith]
    · exact h2.elim
  | convert src dst x =>
    obtain ⟨h1, h2⟩ := hc
    have hv := get_sound h rfl h1
    simp only [ev]
    unfold cvC at h2
    split at h2
    · next k n e =>
      obtain ⟨h2, h3⟩ := h2
      obtain ⟨ds, h3⟩ := Option.isSome_iff_exists.1 h3
      obtain ⟨k', hk'⟩ := kind_und h2
      have hkd : kindP P dst = some k' := by simp [kindP, hk']
      rw [e] at hv ⊢
      have hv := hv.immI.1
      refine ⟨.int k' (k'.wrap n), ?_, by simp only [cvA, hkd]; exact .sh (.imm _ rfl)⟩
      simp only [execOp, convert, Sem.run_bind, run_underlying h3, run_underlying hk', Result.andThen_ok, hv]
      cases ds <;> simp [Conv.intToInt]
    · next s e =>
      obtain ⟨h2, h3⟩ := h2
      have hu := str_und h2
      have hs := str_und h3
      rw [e] at hv ⊢
      have hv := hv.immI.1
      exact ⟨.string s, by simp only [execOp, convert, Sem.run_bind, run_underlying hs, run_underlying hu, Result.andThen_ok, hv, Sem.run_pure], .sh (.imm _ rfl)⟩
    · exact h2.elim
  | makeInterface T x =>
    obtain ⟨h1, h2, h3⟩ := hc
    have hv := get_sound h rfl h1
    refine ⟨.iface T (a.eval x), ?_, .ifc _ _ _ hv⟩
    obtain ⟨d, hu⟩ := Option.isSome_iff_exists.1 h3
    unfold ifcP at h2
    rw [hu] at h2
    cases d <;> first | (simp at h2; done) | simp [execOp, Instr.makeInterface, run_underlying hu]
  | build T parts =>
    have hc : bldC st true parts.toList (zplP P T) := hc
    cases hz : zplP P T with
    | none => rw [hz] at hc; exact hc.elim
    | some z =>
      rw [hz] at hc
      have hc : fillC st true z.2 z.1.length parts.toList := hc
      unfold zplP at hz
      split at hz
      · next it fields hi hu =>
        split at hz
        · next z0 places hz0 hpl =>
          split at hz
          · next hone =>
            cases hz
            have hz : RN G ν (.agg z0.cells) (.agg (z0.cells.toList.map constX)) := by
              have h1 : ∀ (j : Nat) (v : Value), z0.cells[j]? = some v → v.oneCell' = true := fun j v hj => (Array.all_eq_true_iff_forall_mem.1 hone) v (Array.mem_of_getElem? hj)
              refine .agg _ _ (by simp) h1 fun j v b hv hb => ?_
              rw [List.getElem?_map, Array.getElem?_toList, hv] at hb
              simp only [Option.map_some, Option.some.injEq] at hb
              subst hb
              exact rn_cell (h1 j v hv)
            obtain ⟨vs', f1, f2⟩ := fill_sound h places parts.toList _ _ hz (by simpa using hc)
            have hb : P.built T ((parts.map fun (i, x) => (i, a.eval x)).toList) = some vs' := by
              simp only [Program.built, hi, hu, hz0, hpl]
              rw [← f1]
              simp
            refine ⟨.agg vs', ?_, ?_⟩
            · have := run_build w T (parts.map fun (i, x) => (i, a.eval x)) vs' hb
              simp [execOp, this]
            · have e : ev P st (.build T parts) = .agg (fillA st places (z0.cells.toList.map constX) parts.toList) := by
                simp only [ev, zplP, hi, hu, hz0, hpl, hone, if_true, bldA]
              rw [e]
              exact f2
          · cases hz
        · cases hz
      · cases hz
  | extract x j =>
    obtain ⟨h1, h2⟩ := hc
    have hv := get_sound h rfl h1
    simp only [ev]
    unfold tupC at h2
    split at h2
    · next as e =>
      rw [e] at hv ⊢
      obtain ⟨vs, hau, hl, hh⟩ := hv.tupI
      have hj : j < vs.size := by omega
      refine ⟨vs[j], by simp [execOp, Instr.extract, hau, hj], ?_⟩
      simp only [tupA, List.getD_eq_getElem?_getD, List.getElem?_eq_getElem h2, Option.getD_some]
      exact hh j _ _ (Array.getElem?_eq_getElem hj) (List.getElem?_eq_getElem h2)
    · exact h2.elim
  | typeAssert x xT T ok =>
    obtain ⟨h1, h2⟩ := hc
    have hv := get_sound h rfl h1
    simp only [ev]
    have nint : undP P T = true → ifcP P T = false → ∃ d, P.underlying T = some d ∧ ∀ ms, d ≠ .interface ms := fun k1 k2 => by
      obtain ⟨d, hd⟩ := Option.isSome_iff_exists.1 k1
      refine ⟨d, hd, fun ms e => ?_⟩
      subst e
      simp [ifcP, hd] at k2
    unfold tasC at h2
    split at h2
    · next t b e =>
      obtain ⟨k1, k2, k3, k4⟩ := h2
      obtain ⟨d, hd, hni⟩ := nint k1 k2
      obtain ⟨z, hz⟩ := Option.isSome_iff_exists.1 k4
      obtain ⟨zv, hzr, hzn⟩ := zro_sound (G := G) (ν := ν) (w := w) hz
      rw [e] at hv ⊢
      obtain ⟨u, e1, hu⟩ := hv.ifcI
      have hrun : (Instr.typeAssert (.iface t u) xT T ok).run P w = (if t = T then (if ok then .ok (.tuple #[u, .bool true]) w else .ok u w) else (if ok then .ok (.tuple #[zv, .bool false]) w else (Instr.typeAssert (.iface t u) xT T ok).run P w)) := by
        by_cases ht : t = T
        · rw [if_pos ht]
          unfold Instr.typeAssert
          rw [Sem.run_bind, run_underlying hd, Result.andThen_ok]
          cases d <;> first | exact absurd rfl (hni _) | (cases ok <;> simp [ht])
        · rw [if_neg ht]
          cases ok with
          | false => simp
          | true =>
            unfold Instr.typeAssert
            rw [Sem.run_bind, run_underlying hd, Result.andThen_ok]
            cases d <;> first | exact absurd rfl (hni _) | simp [ht, hzr]
      simp only [tasA]
      by_cases ht : t = T
      · rw [if_pos ht] at hrun ⊢
        cases ok with
        | true => exact ⟨.tuple #[u, .bool true], by simp [execOp, e1, hrun], pair_rn hu (.sh (.imm _ rfl))⟩
        | false => exact ⟨u, by simp [execOp, e1, hrun], hu⟩
      · rw [if_neg ht] at hrun ⊢
        have hok : ok = true := k3.resolve_left ht
        subst hok
        rw [hz]
        exact ⟨.tuple #[zv, .bool false], by simp [execOp, e1, hrun], pair_rn hzn (.sh (.imm _ rfl))⟩
    · next e =>
      obtain ⟨k1, k2, rfl, k4⟩ := h2
      obtain ⟨d, hd, hni⟩ := nint k1 k2
      obtain ⟨z, hz⟩ := Option.isSome_iff_exists.1 k4
      obtain ⟨zv, hzr, hzn⟩ := zro_sound (G := G) (ν := ν) (w := w) hz
      rw [e] at hv ⊢
      have e1 := hv.immI.1
      have hrun : (Instr.typeAssert .nilIface xT T true).run P w = .ok (.tuple #[zv, .bool false]) w := by
        unfold Instr.typeAssert
        rw [Sem.run_bind, run_underlying hd, Result.andThen_ok]
        cases d <;> first | exact absurd rfl (hni _) | simp [hzr]
      simp only [tasA, hz]
      exact ⟨.tuple #[zv, .bool false], by simp [execOp, e1, hrun], pair_rn hzn (.sh (.imm _ rfl))⟩
    · exact h2.elim
  | makeFunc fn first cs =>
    cases fn with
    | func f =>
      obtain ⟨h1, h2⟩ := hc
      have hf : first = #[] := Array.eq_empty_of_size_eq_zero h1
      subst hf
      refine ⟨.func (.func f) #[] (cs.map a.eval), by simp [execOp, Instr.makeFunc], ?_⟩
      refine .fnc f _ _ (by simp) fun j v b hv hb => ?_
      simp only [Array.getElem?_map] at hv
      simp only [List.getElem?_map, Array.getElem?_toList] at hb
      cases hx : cs[j]? with
      | none => rw [hx] at hv; cases hv
      | some x =>
        rw [hx] at hv hb
        simp only [Option.map_some, Option.some.injEq] at hv hb
        subst hv hb
        exact get_sound h rfl (h2 x (by simpa using Array.mem_of_getElem? hx))
    | _ => exact hc.elim
  | call c =>
    obtain ⟨callee, xs, ats⟩ := c
    simp only [evc] at hc
    split at hc
    · next x T hx hT =>
      obtain ⟨h1, h2⟩ := hc
      have hv := get_sound h rfl h1
      have ha : (xs.map a.eval)[0]? = some (a.eval x) := by simp [hx]
      have hev : ev P st (.call ⟨.builtin .len, xs, ats⟩) = lenA (st.get x) := by simp only [ev, hx]
      rw [hev]
      have sl : (elemP P T).isSome = true → ∀ A n c, a.eval x = .slice A n c → (execOp a.eval { dst := dst, op := .call ⟨.builtin .len, xs, ats⟩, type := type, pos := pos, after := after, guard := guard }).run P w = .ok (.value (.int .i64 n)) w := fun he A n c e => by
        obtain ⟨E, he⟩ := Option.isSome_iff_exists.1 he
        have hu := elem_und he
        rw [e] at ha
        simp [execOp, resolve, invoke, builtin, Builtin.len_, hT, ha, run_underlying hu, goInt]
      unfold lenC at h2
      split at h2
      · next es e =>
        rw [e] at hv ⊢
        have hv := hv.slI
        generalize hu : a.eval x = u at hv
        cases hv with
        | nil => exact ⟨_, sl h2 _ _ _ hu, .sh (.imm _ rfl)⟩
        | sl g o sz cc es hsz hcc hcell => exact ⟨_, sl h2 _ _ _ hu, .sh (.imm _ rfl)⟩
      · next n lo len e =>
        rw [e] at hv ⊢
        rcases hv.rwI with ⟨cap, sz, q1, q2, rfl, rfl⟩ | ⟨g, cap, sz, o, q1, q2, q3, q4⟩
        · exact ⟨_, sl h2 _ _ _ q2, .sh (.imm _ rfl)⟩
        · exact ⟨_, sl h2 _ _ _ q2, .sh (.imm _ rfl)⟩
      · next e =>
        rw [e] at hv ⊢
        exact ⟨_, sl h2 _ _ _ hv.nlI, .sh (.imm _ rfl)⟩
      · next s e =>
        rw [e] at hv ⊢
        have hv := hv.immI.1
        have hu := str_und h2
        rw [hv] at ha
        exact ⟨.int .i64 s.size, by simp [execOp, resolve, invoke, builtin, Builtin.len_, hT, ha, run_underlying hu, goInt], .sh (.imm _ rfl)⟩
      · exact h2.elim
    · exact hc.elim
  | _ => exact hc.elim
end
end Go.Proofs.YtldnkeackphilaaGreatDoor.X
namespace Go.Proofs.YtldnkeackphilaaGreatDoor.X
open Go.RowKit

theorem fixA_whole {a : AV} (h : a.whole = true) : (fixA a).whole = true := by cases a <;> first | rfl | cases h
theorem RN.fix {G : Gh} {ν : Nu} {v : Value} {a : AV} (h : RN G ν v a) : RN G ν v (fixA a) := by
  induction h with
  | sh h => exact .sh (rs_fix h)
  | nl => exact .sh .nil
  | ref n off g cap sz h => exact .ref n off g cap sz h
  | elt n i j g cap sz h => exact .elt n i j g cap sz h
  | rw n lo len g cap sz o h hc ho => exact .rw n lo len g cap sz o h hc ho
  | rw0 n cap sz h => exact .rw0 n cap sz h
  | agg vs cs hl h1 _ ih =>
    refine .agg vs _ (by rw [fixL_len]; exact hl) h1 fun j v a hv ha => ?_
    rw [fixL_get] at ha
    obtain ⟨b, hb, rfl⟩ := Option.map_eq_some_iff.1 ha
    exact ih j v b hv hb
  | tup vs cs hl _ ih =>
    refine .tup vs _ (by rw [fixL_len]; exact hl) fun j v a hv ha => ?_
    rw [fixL_get] at ha
    obtain ⟨b, hb, rfl⟩ := Option.map_eq_some_iff.1 ha
    exact ih j v b hv hb
  | ifc t v a _ ih => exact .ifc t v _ ih
  | fnc f vs cs hl h _ => exact .fnc f vs cs hl h
def onD (dst : Option Nat) (f : Nat → Prop) : Prop := match dst with
  | some d => f d
  | none => False
def zbx (P : Program) (T : TypeId) : Option (List AV) := match zeroP P T with
  | some z => if z.cells.all (·.oneCell') then some (z.cells.toList.map constX) else none
  | none => none
def slE (lo len : Nat) : Option Blk → Option (TypeId × List (List AV))
  | some (.row E es) => if lo + len ≤ es.length then some (E, (es.drop lo).take len) else none
  | _ => none
def stoB (off : Nat) (n : Nat) (cs' : List AV) (R : Eff → Prop) : Option Blk → Prop
  | some (.box T' cs) => off + cs'.length ≤ cs.length ∧ R ⟨none, .dead, [(n, some (.box T' (spliceL cs off cs')))], []⟩
  | _ => False
def stoE (P : Program) (st : St) (i j n : Nat) (v : AV) (R : Eff → Prop) : Option Blk → Prop
  | some (.row E es) => i < es.length ∧ j + v.cells.length ≤ szP P E ∧ ∃ ns, frzOk st.blk ns ∧ n ∉ ns ∧ pureA (frzF st.blk ns v) = true ∧
      R ⟨none, .dead, (n, some (.row E (es.set i (spliceL (es.getD i []) j (fixA (frzF st.blk ns v)).cells)))) :: dropE ns, []⟩
  | _ => False
def stoK (P : Program) (st : St) (v : AV) (R : Eff → Prop) : AV → Prop
  | .ref n off => stoB off n v.cells R (st.blk n)
  | .elt n i j => stoE P st i j n v R (st.blk n)
  | _ => False
def appS (st : St) (E : TypeId) : AV → Option (List (List AV) × List Nat)
  | .nl => some ([], [])
  | .rw n 0 len => match slE 0 len (st.blk n) with
    | some p => if p.1 = E then some (p.2, [n]) else none
    | none => none
  | _ => none
def appX (st : St) : AV → Option (List (List AV))
  | .nl => some []
  | .sl es => some es
  | .rw n lo len => (slE lo len (st.blk n)).map (·.2)
  | _ => none
def appC (P : Program) (E : TypeId) (es es2 : List (List AV)) : Prop := (∀ e ∈ es2, e.length = szP P E) ∧ (es.length + es2.length) * bytesP P E ≤ 140737488355328 ∧ es.length + es2.length ≤ 9223372036854775807 ∧ 0 < szP P E ∧ zszP P E = true
structure CallP (P : Program) (st : St) (d : Nat) (f : FuncId) (as : List AV) (e : Eff) : Prop where
  ex : ∃ ns a rt, frzOk st.blk ns ∧ pureL (as.map (frzF st.blk ns)) = true ∧ Has P f (fixL (as.map (frzF st.blk ns))) a rt ∧ a.shared = true ∧ e = ⟨some d, a, dropE ns, []⟩
section
variable {P : Program} {N : Nat} {C : Cx} {G : Gh} {ν : Nu} {w : World} {st : St}
def Cont (P : Program) (N : Nat) (C : Cx) (K : Act → World → Prop) (s : St) : Prop := ∀ (a' : Act) w' G' ν', a'.defers = [] → Inv P N C G' ν' w' a'.tmps s → K a' w'
theorem RN.noTup {v : Value} {A : AV} (h : RN G ν v A) (hw : A.whole = true) : ∀ us, v ≠ .tuple us := by
  intro us e
  subst e
  cases h with
  | sh h =>
    cases h with
    | imm v h => cases h
    | tup => cases hw
  | tup => cases hw
theorem RN.ofTup {v : Value} {A : AV} (h : RN G ν v A) (hn : ∀ us, v ≠ .tuple us) : A.whole = true := by
  cases A <;> first | rfl | (obtain ⟨us, e, -⟩ := h.tupI; exact absurd e (hn us))
theorem alloc_sound {a : Act} {o : Oper} {K : Act → World → Prop} {QQ : Exit → Act → World → Prop} {d : Nat} {T : TypeId} {cs : List AV} (hds : a.defers = []) (h : Inv P N C G ν w a.tmps st) (hdst : o.dst = some d) (hop : o.op = .alloc T) (hd : d < N) (hu : st.usd d = false)
    (hz : zbx P T = some cs) (hK : Cont P N C K (st.app ⟨some d, .ref d 0, [(d, some (.box T cs))], [d]⟩)) : o.wp P a w K QQ := by
  unfold zbx at hz
  cases hz0 : zeroP P T with
  | none => rw [hz0] at hz; cases hz
  | some z =>
    rw [hz0] at hz
    simp only at hz
    split at hz
    · next h1 =>
      cases hz
      have hrun : (execOp a.eval o).run P w = .ok (.value (.pointer (some ⟨w.heap.size, 0, none⟩))) (w.alloc (.cells z.cells T)) := by
        obtain ⟨dst, op, ty, pos, aft, gd⟩ := o
        simp only at hop
        subst hop
        unfold zeroP at hz0
        cases hi : P.info? T with
        | none => simp [hi] at hz0
        | some i =>
          have hz' : i.zero = some z := by simpa [hi] using hz0
          simp [execOp, Instr.alloc, zeroValue, typeInfo, hi, hz', newVar, newRow]
      refine wp_val hrun ?_
      rw [hdst]
      have hn := h.new hu ⟨some w.heap.size, 1, z.cells.size⟩ (.box T (z.cells.toList.map constX)) (w' := w.alloc (.cells z.cells T)) rfl rfl rfl (by simp) (fun g hg => Below.heap_alloc _ _ _ hg) (fun g hg => by cases hg; exact Nat.le_refl _)
        ⟨w.heap.size, 1, z.cells.size, Nu.set_eq _ _ _, fun i b hg => absurd (ghost_lt h.cells hg) (Nat.lt_irrefl _), z.cells, heap_alloc_new _ _, by simp, fun j v b hv hb => by
          have ho := (Array.all_eq_true_iff_forall_mem.1 h1) v (Array.mem_of_getElem? hv)
          have : b = constX v := by rw [List.getElem?_map, Array.getElem?_toList, hv] at hb; simpa using hb.symm
          subst this
          exact ⟨ho, rn_cell ho⟩⟩
      exact hK (a.put (some d) _) _ _ _ hds (hn.putv hd (.x (.ref d 0 _ _ _ (Nu.set_eq _ _ _))))
    · cases hz
theorem box_sound {a : Act} {o : Oper} {K : Act → World → Prop} {QQ : Exit → Act → World → Prop} {d : Nat} {T : TypeId} {x : Operand} (hds : a.defers = []) (h : Inv P N C G ν w a.tmps st) (hdst : o.dst = some d) (hop : o.op = .box T x) (hd : d < N) (hu : st.usd d = false)
    (hx : st.ok true x) (hw : (st.get x).whole = true) (hK : Cont P N C K (st.app ⟨some d, .ref d 0, [(d, some (.box T (st.get x).cells))], [d]⟩)) : o.wp P a w K QQ := by
  have hrun : (execOp a.eval o).run P w = .ok (.value (.pointer (some ⟨w.heap.size, 0, none⟩))) (w.alloc (.cells (a.eval x).cells T)) := by
    obtain ⟨dst, op, ty, pos, aft, gd⟩ := o
    simp only at hop
    subst hop
    simp [execOp, Instr.box, newVar, newRow]
  refine wp_val hrun ?_
  rw [hdst]
  obtain ⟨hl, hc⟩ := (get_sound h rfl hx).cells hw
  have hxt : Ext ν (ν.set d ⟨some w.heap.size, 1, (a.eval x).cells.size⟩) := ext_set (h.none_of hu).1
  have hn := h.new hu ⟨some w.heap.size, 1, (a.eval x).cells.size⟩ (.box T (st.get x).cells) (w' := w.alloc (.cells (a.eval x).cells T)) rfl rfl rfl (by simp) (fun g hg => Below.heap_alloc _ _ _ hg) (fun g hg => by cases hg; exact Nat.le_refl _)
    ⟨w.heap.size, 1, _, Nu.set_eq _ _ _, fun i b hg => absurd (ghost_lt h.cells hg) (Nat.lt_irrefl _), (a.eval x).cells, heap_alloc_new _ _, hl, fun j v b hv hb => ⟨(hc j v b hv hb).2, (hc j v b hv hb).1.mono (.refl _) hxt⟩⟩
  exact hK (a.put (some d) _) _ _ _ hds (hn.putv hd (.x (.ref d 0 _ _ _ (Nu.set_eq _ _ _))))
theorem sets_row {vs : Array Value} {es : List (List AV)} {sz : Nat} (h0 : ∀ e ∈ es, e.length = sz) {i j : Nat} (hi : i < es.length) {as : List AV} (hj : j + as.length ≤ sz) (us : List Value) (hul : us.length = as.length) (hsz : es.length * sz ≤ vs.size)
    {Q : Value → AV → Prop} (hold : ∀ (k : Nat) v a, vs[k]? = some v → es.flatten[k]? = some a → Q v a) (hnew : ∀ (k : Nat) u a, us[k]? = some u → as[k]? = some a → Q u a) :
    (∀ e ∈ es.set i (spliceL (es.getD i []) j as), e.length = sz) ∧ i * sz + j + us.length ≤ vs.size ∧ ∀ (k : Nat) v a, (setsA vs (i * sz + j) us)[k]? = some v → (es.set i (spliceL (es.getD i []) j as)).flatten[k]? = some a → Q v a := by
  have hgi : es[i]? = some es[i] := List.getElem?_eq_getElem hi
  have hgd : es.getD i [] = es[i] := by simp [List.getD_eq_getElem?_getD, hgi]
  have hel : es[i].length = sz := h0 _ (List.getElem_mem hi)
  have hsp : (spliceL (es.getD i []) j as).length = sz := by rw [hgd, splice_len (by rw [hel]; exact hj), hel]
  have hall : ∀ e ∈ es.set i (spliceL (es.getD i []) j as), e.length = sz := fun e he => by
    rcases List.mem_or_eq_of_mem_set he with he | he
    · exact h0 e he
    · rw [he]; exact hsp
  have hmul : i * sz + sz ≤ es.length * sz := by
    have := Nat.mul_le_mul_right sz (show i + 1 ≤ es.length by omega)
    rw [Nat.add_mul] at this
    omega
  have hfit : i * sz + j + us.length ≤ vs.size := by omega
  refine ⟨hall, hfit, fun k v a hv ha => ?_⟩
  obtain ⟨i', e, j', q1, q2, rfl⟩ := flat_inv hall ha
  have hjs : j' < sz := by rw [← hall e (List.mem_of_getElem? q1)]; exact (List.getElem?_eq_some_iff.1 q2).1
  rw [setsA_get us _ vs hfit] at hv
  by_cases e1 : i' = i
  · subst e1
    rw [List.getElem?_set_self hi] at q1
    cases q1
    rw [hgd, splice_get (by rw [hel]; exact hj)] at q2
    by_cases e2 : j ≤ j' ∧ j' < j + as.length
    · rw [if_pos e2] at q2
      rw [if_pos (by omega), show i' * sz + j' - (i' * sz + j) = j' - j by omega] at hv
      exact hnew _ v a hv q2
    · rw [if_neg e2] at q2
      rw [if_neg (by omega)] at hv
      exact hold _ v a hv (flat_get h0 hgi q2)
  · rw [List.getElem?_set_ne (Ne.symm e1)] at q1
    have hne : ¬ (i * sz + j ≤ i' * sz + j' ∧ i' * sz + j' < i * sz + j + us.length) := by
      rcases Nat.lt_or_gt_of_ne e1 with hlt | hgt
      · have := Nat.mul_le_mul_right sz (show i' + 1 ≤ i by omega)
        rw [Nat.add_mul] at this
        omega
      · have := Nat.mul_le_mul_right sz (show i + 1 ≤ i' by omega)
        rw [Nat.add_mul] at this
        omega
    rw [if_neg hne] at hv
    exact hold _ v a hv (flat_get h0 q1 q2)
theorem store_sound {a : Act} {o : Oper} {K : Act → World → Prop} {QQ : Exit → Act → World → Prop} {T : TypeId} {addr x : Operand} {e : Eff} (hds : a.defers = []) (h : Inv P N C G ν w a.tmps st) (hdst : o.dst = none) (hop : o.op = .store T addr x)
    (had : st.ok true addr) (hx : st.ok true x) (hw : (st.get x).whole = true) (hi : infP P T = true) (hsz : (st.get x).cells.length = szP P T) (hs : stoK P st (st.get x) (· = e) (st.get addr)) (hK : Cont P N C K (st.app e)) : o.wp P a w K QQ := by
  have hA := get_sound h rfl had
  have hV := get_sound h rfl hx
  obtain ⟨hl, hc⟩ := hV.cells hw
  have hone : (a.eval x).cells.all (·.oneCell') = true := Array.all_eq_true_iff_forall_mem.2 fun u hu => by
    obtain ⟨j, hj⟩ := Array.getElem?_of_mem hu
    have hlt : j < (st.get x).cells.length := by rw [← hl]; exact (Array.getElem?_eq_some_iff.1 hj).1
    exact (hc j u _ hj (List.getElem?_eq_getElem hlt)).2
  have run : ∀ g off, a.eval addr = .pointer (some ⟨g, off, none⟩) → w.there g off (a.eval x).cells.size → (execOp a.eval o).run P w = .ok .skip (w.setCells g off (a.eval x).cells.toList) := fun g off e1 hth => by
    obtain ⟨dst, op, ty, pos, aft, gd⟩ := o
    simp only at hop
    subst hop
    have := run_storeAt_any (P := P) w g off T (a.eval x) hth hi (by rw [hl, hsz]) hone
    simp [execOp, e1, this]
  unfold stoK at hs
  split at hs
  · next n off hg =>
    rw [hg] at hA
    obtain ⟨g, cap, sz, hn, e1⟩ := hA.refI
    unfold stoB at hs
    split at hs
    · next T' cs hb =>
      obtain ⟨hoff, rfl⟩ := hs
      obtain ⟨g', cap', sz', k1, k2, vs, k3, k4, k5⟩ := h.blks n _ hb
      rw [hn] at k1
      cases k1
      have hlen : off + (a.eval x).cells.toList.length ≤ vs.size := by simp [hl, k4]; omega
      refine wp_skip' (run g off e1 fun j hj => ⟨?_, ?_⟩) ?_
      · rw [cell_of_row _ _ _ _ _ _ k3, Array.getElem?_eq_getElem (by simp at hlen; omega)]
        rfl
      · simp [World.frozen?, k3]
      rw [hdst]
      obtain ⟨r1, r2, r3, r4⟩ := setCells_rest (g := g) (a.eval x).cells.toList off w
      refine hK a _ G ν hds (h.chg (by rw [hb]; rfl) (g := g) (by simp [blkOf, hn]) r1 r2 r3 (by omega) (fun g' _ hne => setCells_far hne _ _ _) ⟨g, cap, sz, hn, k2, _, setCells_blk _ off w vs k3, by rw [setsA_size, splice_len hoff, k4], fun j v b hv hb' => ?_⟩)
      rw [setsA_get _ off vs hlen] at hv
      rw [splice_get hoff] at hb'
      simp only [Array.length_toList, hl] at hv
      by_cases hj : off ≤ j ∧ j < off + (st.get x).cells.length
      · rw [if_pos hj] at hv hb'
        rw [Array.getElem?_toList] at hv
        exact ⟨(hc _ v b hv hb').2, (hc _ v b hv hb').1⟩
      · rw [if_neg hj] at hv hb'
        exact k5 j v b hv hb'
    · exact hs.elim
  · next n i j hg =>
    rw [hg] at hA
    obtain ⟨g, cap, sz, hn, e1⟩ := hA.eltI
    unfold stoE at hs
    split at hs
    · next E es hb =>
      obtain ⟨hilt, hjl, ns, hok, hnns, hp, rfl⟩ := hs
      obtain ⟨G1, h1, hle, hsub⟩ := h.frzS ns hok
      have hb1 : (st.drops ns).blk n = some (.row E es) := by rw [(drops_is ns st).2.2, if_neg hnns]; exact hb
      obtain ⟨k0, kr⟩ := h1.blks n _ hb1
      rcases kr with ⟨cap', k1, _⟩ | ⟨g', cap', k1, k2, k3, k4, vs, k5, k6, k7⟩
      · rw [hn] at k1; cases k1
      rw [hn] at k1
      cases k1
      have hV1 := hsub _ _ hV
      have hfw : (fixA (frzF st.blk ns (st.get x))).whole = true := fixA_whole (hV1.ofTup (hV.noTup hw))
      have hVS := hV1.toRS hp
      obtain ⟨hl2, hc2⟩ := hVS.cells hfw
      have hlen2 : (fixA (frzF st.blk ns (st.get x))).cells.length = (st.get x).cells.length := by rw [← hl2, hl]
      have hmul : es.length * szP P E ≤ vs.size := by rw [k6]; exact Nat.mul_le_mul_right _ k3
      obtain ⟨s1, s2, s3⟩ := sets_row (vs := vs) (j := j) k0 hilt (as := (fixA (frzF st.blk ns (st.get x))).cells) (by omega) (a.eval x).cells.toList (by simpa using hl2) hmul (Q := fun v b => v.oneCell' = true ∧ RS G1 v b) k7 (fun k u b hu hb => by
        obtain ⟨q1, q2⟩ := hc2 k u b (by simpa using hu) hb
        exact ⟨q2, q1⟩)
      refine wp_skip' (run g _ e1 fun k hk => ⟨?_, ?_⟩) ?_
      · rw [cell_of_row _ _ _ _ _ _ k5, Array.getElem?_eq_getElem (by simp at s2; omega)]
        rfl
      · simp [World.frozen?, k5]
      rw [hdst]
      obtain ⟨r1, r2, r3, r4⟩ := setCells_rest (g := g) (a.eval x).cells.toList (i * szP P E + j) w
      have hfin := h1.chg (n := n) (g := g) (by rw [hb1]; rfl) (by simp [blkOf, hn]) r1 r2 r3 (by omega) (fun g' _ hne => setCells_far hne _ _ _) (B := .row E (es.set i (spliceL (es.getD i []) j (fixA (frzF st.blk ns (st.get x))).cells)))
        ⟨s1, .inr ⟨g, cap, hn, k2, by simpa using k3, k4, _, setCells_blk _ _ w vs k5, by rw [setsA_size, k6], s3⟩⟩
      refine hK a _ G1 ν hds ?_
      show Inv P N C G1 ν _ _ ((st.setL (dropE ns)).setB n _)
      rw [drops_eq]
      exact hfin
    · exact hs.elim
  · exact hs.elim
end
end Go.Proofs.YtldnkeackphilaaGreatDoor.X
