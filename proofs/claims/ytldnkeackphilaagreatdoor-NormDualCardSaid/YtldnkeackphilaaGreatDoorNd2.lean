/- The calculus of values: every operation that only reads. -/
import Derived.Test.YtldnkeackphilaaGreatDoorNd1
set_option linter.unusedSimpArgs false
set_option linter.unusedVariables false
namespace Go.Proofs.YtldnkeackphilaaGreatDoor
open Go.RowKit

def intOfA : AV → Int
  | .imm (.int _ n) => n
  | _ => 0
def isIntA : AV → Prop
  | .imm (.int _ _) => True
  | _ => False
def boundA (st : St) (o : Option Operand) (d : Nat) : Nat := match o with
  | none => d
  | some x => (intOfA (st.get x)).toNat
def boundC (st : St) (y : Bool) (o : Option Operand) (hi : Nat) : Prop := match o with
  | none => True
  | some x => st.ok y x ∧ isIntA (st.get x) ∧ 0 ≤ intOfA (st.get x) ∧ intOfA (st.get x) ≤ hi
def unA (op : UnOp) : AV → AV
  | .imm (.bool b) => match op with
    | .not => .imm (.bool (!b))
    | _ => .dead
  | .imm (.int k n) => match op with
    | .neg => .imm (.int k (k.wrap (0 - n)))
    | _ => .dead
  | _ => .dead
def unC (op : UnOp) : AV → Prop
  | .imm (.bool _) => op = .not
  | .imm (.int _ _) => op = .neg
  | _ => False
def convA (P : Program) (dst : TypeId) : AV → AV
  | .imm (.int _ n) => match P.underlying dst with
    | some (.int k) => .imm (.int k (k.wrap n))
    | _ => .dead
  | .imm (.string s) => .imm (.string s)
  | _ => .dead
def convC (P : Program) (src dst : TypeId) : AV → Prop
  | .imm (.int _ _) => (match P.underlying dst with | some (.int _) => True | _ => False) ∧ (P.underlying src).isSome = true
  | .imm (.string _) => (match P.underlying dst with | some .string => True | _ => False) ∧ (match P.underlying src with | some .string => True | _ => False)
  | _ => False
def zplP (P : Program) (T : TypeId) : Option (List Value × List (Nat × Nat)) := match P.info? T, P.underlying T with
  | some it, some (.struct fields) => match it.zero, fields.toList.mapM (fun f => (P.info? f.type).map fun i => (f.offset, i.size)) with
    | some z, some places => if z.cells.all (·.oneCell') then some (z.cells.toList, places) else none
    | _, _ => none
  | _, _ => none
def plcO (o : Option (Nat × Nat)) : Nat := match o with
  | some p => p.1
  | none => 0
def plcC (o : Option (Nat × Nat)) (k n : Nat) : Prop := match o with
  | some p => k = p.2 ∧ p.1 + k ≤ n
  | none => False
def fillA (st : St) (pl : List (Nat × Nat)) : List AV → List (Nat × Operand) → List AV
  | cs, [] => cs
  | cs, p :: l => fillA st pl (spliceL cs (plcO pl[p.1]?) (st.get p.2).cells) l
def fillC (st : St) (y : Bool) (pl : List (Nat × Nat)) (n : Nat) : List (Nat × Operand) → Prop
  | [] => True
  | p :: l => st.ok y p.2 ∧ (st.get p.2).shared = true ∧ (st.get p.2).whole = true ∧ plcC pl[p.1]? (st.get p.2).cells.length n ∧ fillC st y pl n l
def ev (P : Program) (st : St) : Op → AV
  | .move x => st.get x
  | .assign x => st.get x
  | .pick c a b => match st.get c, st.get a, st.get b with
    | .imm (.bool c), .imm (.bool p), .imm (.bool q) => .imm (.bool (if c then p else q))
    | _, _, _ => .dead
  | .nilCheck x => st.get x
  | .load T x => match st.get x with
    | .ref r off => match st.val r with
      | .box _ cs => ldA P T (cs.drop off)
      | _ => .dead
    | .ptr cs => ldA P T cs
    | _ => .dead
  | .fieldAddr S x f => match P.underlying S with
    | some (.struct fs) => match fs[f]? with
      | some fl => match st.get x with
        | .ref r off => .ref r (off + fl.offset)
        | .ptr cs => .ptr (cs.drop fl.offset)
        | _ => .dead
      | none => .dead
    | _ => .dead
  | .field S x f => match P.underlying S with
    | some (.struct fs) => match fs[f]? with
      | some fl => match st.get x with
        | .agg cs => ldA P fl.type (cs.drop fl.offset)
        | _ => .dead
      | none => .dead
    | _ => .dead
  | .indexAddr _ x i => match st.get x with
    | .sl es => .ptr (es.getD (intOfA (st.get i)).toNat [])
    | _ => .dead
  | .index _ x i => match st.get x with
    | .imm (.string s) => .imm (.int .u8 ((s.data[(intOfA (st.get i)).toNat]?).getD 0).toNat)
    | _ => .dead
  | .slice _ x lo hi _ => match st.get x with
    | .imm (.string s) => .imm (.string (s.extract (boundA st lo 0) (boundA st hi s.size)))
    | .sl es => .sl ((es.take (boundA st hi es.length)).drop (boundA st lo 0))
    | _ => .dead
  | .binOp op _ x y _ => binA op (st.get x) (st.get y)
  | .unOp op _ x => unA op (st.get x)
  | .convert _ dst x => convA P dst (st.get x)
  | .makeInterface T x => .ifc T (st.get x)
  | .extract x j => match st.get x with
    | .tup as => as.getD j .dead
    | _ => .dead
  | .build T parts => match zplP P T with
    | some z => .agg (fillA st z.2 (z.1.map constCell) parts.toList)
    | none => .dead
  | .call c => match c.callee, c.args[0]? with
    | .builtin .len, some x => match st.get x with
      | .sl es => .imm (.int .i64 es.length)
      | .imm (.string s) => .imm (.int .i64 s.size)
      | _ => .dead
    | _, _ => .dead
  | _ => .dead
def evc (P : Program) (st : St) (y : Bool) : Op → Prop
  | .move x => st.ok y x
  | .assign x => st.ok y x
  | .pick c a b => st.ok y c ∧ match st.get c, st.get a, st.get b with
    | .imm (.bool c), .imm (.bool _), .imm (.bool _) => st.ok (y && c) a ∧ st.ok (y && !c) b
    | _, _, _ => False
  | .nilCheck x => st.ok y x ∧ match st.get x with
    | .ref _ _ => True
    | .ptr _ => True
    | _ => False
  | .load T x => st.ok y x ∧ match st.get x with
    | .ref r off => match st.val r with
      | .box _ cs => y = true → ldC P T (cs.drop off)
      | _ => False
    | .ptr cs => y = true → ldC P T cs
    | _ => False
  | .fieldAddr S x f => st.ok y x ∧ match P.underlying S with
    | some (.struct fs) => match fs[f]? with
      | some fl => szP P fl.type ≠ 0 ∧ (match st.get x with
        | .ref _ _ => True
        | .ptr _ => True
        | _ => False)
      | none => False
    | _ => False
  | .field S x f => st.ok y x ∧ match P.underlying S with
    | some (.struct fs) => match fs[f]? with
      | some fl => (match st.get x with
        | .agg cs => ldC P fl.type (cs.drop fl.offset)
        | _ => False)
      | none => False
    | _ => False
  | .indexAddr T x i => st.ok y x ∧ st.ok y i ∧ isIntA (st.get i) ∧ match P.underlying T with
    | some (.slice e) => (P.info? e).isSome = true ∧ match st.get x with
      | .sl es => y = true → 0 ≤ intOfA (st.get i) ∧ intOfA (st.get i) < es.length ∧ (es.getD (intOfA (st.get i)).toNat []).length = szP P e
      | _ => False
    | _ => False
  | .index T x i => st.ok y x ∧ st.ok y i ∧ isIntA (st.get i) ∧ match P.underlying T with
    | some .string => match st.get x with
      | .imm (.string s) => y = true → 0 ≤ intOfA (st.get i) ∧ intOfA (st.get i) < s.size
      | _ => False
    | _ => False
  | .slice T x lo hi mx => st.ok y x ∧ mx.isNone = true ∧ match P.underlying T with
    | some .string => match st.get x with
      | .imm (.string s) => boundC st y hi s.size ∧ boundC st y lo (boundA st hi s.size)
      | _ => False
    | some (.slice e) => (P.info? e).isSome = true ∧ match st.get x with
      | .sl es => boundC st y hi es.length ∧ boundC st y lo (boundA st hi es.length) ∧ ∀ x ∈ es, x.length = szP P e
      | _ => False
    | _ => False
  | .binOp op T x z _ => st.ok y x ∧ st.ok y z ∧ binC P op T (isConstO x || isConstO z) (st.get x) (st.get z)
  | .unOp op _ x => st.ok y x ∧ unC op (st.get x)
  | .convert src dst x => st.ok y x ∧ convC P src dst (st.get x)
  | .makeInterface T x => st.ok y x ∧ (st.get x).shared = true ∧ match P.underlying T with
    | some (.interface _) => False
    | some _ => True
    | none => False
  | .extract x j => st.ok y x ∧ match st.get x with
    | .tup as => j < as.length
    | _ => False
  | .build T parts => match zplP P T with
    | some z => fillC st y z.2 z.1.length parts.toList
    | none => False
  | .call c => match c.callee, c.args[0]?, c.argTypes[0]? with
    | .builtin .len, some x, some T => st.ok y x ∧ match st.get x with
      | .sl _ => (match P.underlying T with | some (.slice _) => True | _ => False)
      | .imm (.string _) => (match P.underlying T with | some .string => True | _ => False)
      | _ => False
    | _, _, _ => False
  | _ => False
theorem run_bound {P : Program} {w : World} {k : IntKind} {n : Int} {hi : Nat} (c : BoundsCode) (h0 : 0 ≤ n) (h1 : n ≤ hi) : (Instr.sliceBound (.int k n) hi c).run P w = .ok n.toNat w := by
  simp [Instr.sliceBound, asIntOf, h0, h1]
end Go.Proofs.YtldnkeackphilaaGreatDoor
namespace Go.Proofs.YtldnkeackphilaaGreatDoor
open Go.RowKit

theorem drop_flat {sz : Nat} {es : List (List AV)} (l h : Nat) {i : Nat} {e : List AV} (hi : ((es.take h).drop l)[i]? = some e) : es[l + i]? = some e := by
  rw [List.getElem?_drop] at hi
  by_cases hlt : l + i < h
  · rwa [List.getElem?_take_of_lt hlt] at hi
  · rw [List.getElem?_take_eq_none (by omega)] at hi
    cases hi
theorem RS.slice_inv {G : Gh} {A : Option Addr} {n c : Nat} {es : List (List AV)} (h : RS G (.slice A n c) (.sl es)) : (c = 0 ∧ es = []) ∨ ∃ g o sz, A = some ⟨g, o, none⟩ ∧ (∀ e ∈ es, e.length = sz) ∧ es.length ≤ c ∧ ∀ (i : Nat) (e : List AV) (j : Nat) (a : AV), es[i]? = some e → e[j]? = some a → G g (o + i * sz + j) a := by
  generalize hv : Value.slice A n c = v at h
  cases h with
  | nil => cases hv; exact .inl ⟨rfl, rfl⟩
  | sl g o sz c es h1 h2 h3 => cases hv; exact .inr ⟨g, o, sz, rfl, h1, h2, h3⟩
theorem fold_sets (off : Nat) : ∀ (l : List Value) (j : Nat) (cs : Array Value), (l.zipIdx j).foldl (fun cs (q : Value × Nat) => cs.setIfInBounds (off + q.2) q.1) cs = setsA cs (off + j) l
  | [], _, _ => rfl
  | u :: l, j, cs => by
    rw [List.zipIdx_cons, List.foldl_cons, fold_sets off l, setsA]
    rfl
end Go.Proofs.YtldnkeackphilaaGreatDoor
namespace Go.Proofs.YtldnkeackphilaaGreatDoor
open Go.RowKit

def zeroP (P : Program) (T : TypeId) : Option Value := (P.info? T).bind (·.zero)
def bytesP (P : Program) (T : TypeId) : Nat := ((P.info? T).map (·.bytes)).getD 0
def elemP (P : Program) (T : TypeId) : Option TypeId := match P.underlying T with
  | some (.slice e) => some e
  | _ => none
def isNilS : Value → Bool
  | .slice none 0 0 => true
  | _ => false
def tkO (st : St) : Operand → Nat → Option (Option TypeId)
  | .tmp t, k => st.tok t k
  | .const (.slice none 0 0), 0 => some none
  | .const (.agg vs), k + 1 => if (vs[k]?).any isNilS then some none else none
  | _, _ => none
def tkC (a : AV) (tk : Nat → Option (Option TypeId)) : Nat → Option (Option TypeId) := fun j => match a with
  | .agg cs => if j < cs.length then tk (j + 1) else none
  | _ => if j = 0 then tk 0 else none
def rhoO (x : Operand) (f : Nat → Option Nat) : Nat → Nat → Option Nat := fun t k => match x with
  | .tmp t' => if t = t' then f k else none
  | _ => none
def celF (a : AV) (base : Nat) : Nat → Option Nat := fun k => match a with
  | .agg cs => if 1 ≤ k ∧ k ≤ cs.length then some (base + k) else none
  | _ => if k = 0 then some (base + 1) else none
def nilTk (vs : Array Value) : Nat → Option (Option TypeId)
  | 0 => none
  | k + 1 => if (vs[k]?).any isNilS then some none else none
def tokL (st : St) (x : Operand) : List (Option (Option TypeId)) := match st.get x with
  | .sl _ => [tkO st x 0]
  | .agg cs => none :: (List.range cs.length).map fun j => tkO st x (j + 1)
  | _ => []
def celL (st : St) (x : Operand) : List (Option (Option TypeId)) := match st.get x with
  | .agg cs => (List.range cs.length).map fun j => tkO st x (j + 1)
  | .sl _ => [tkO st x 0]
  | _ => []
def lk (l : List (Option (Option TypeId))) : Nat → Option (Option TypeId) := fun k => l.getD k none
def trR (P : Program) (st : St) (L : List Nat) (d : Nat) : Op → (Nat → Nat → Option Nat)
  | .assign x => if (st.get x).shared then rhoO x some else fun _ _ => none
  | .move x => if L.contains d && (st.get x).shared then rhoO x some else fun _ _ => none
  | .load T x => match st.get x with
    | .ref r off => if L.contains d then (if isRowT P T then (fun t k => if t = r ∧ off + 1 ≤ k ∧ k ≤ off + szP P T then some (k - off) else none) else (fun t k => if t = r ∧ k = off + 1 then some 0 else none)) else fun _ _ => none
    | _ => fun _ _ => none
  | _ => fun _ _ => none
def trT (P : Program) (st : St) (L : List Nat) (d : Nat) : Op → (Nat → Option (Option TypeId))
  | .assign x => if (st.get x).shared then lk (tokL st x) else noTok
  | .move x => if L.contains d && (st.get x).shared then lk (tokL st x) else noTok
  | .load T x => match st.get x with
    | .ref r off => if L.contains d then (if isRowT P T then lk (none :: (List.range (szP P T)).map fun j => st.tok r (off + j + 1)) else lk [st.tok r (off + 1)]) else noTok
    | _ => noTok
  | _ => noTok
def AV.rootNe (d : Nat) : AV → Bool
  | .ref r _ => r != d
  | _ => true
inductive Eff where
  | put (src : Nat → Nat → Bool) (d : Nat) (a : AV) (tk : Nat → Option (Option TypeId))
  | sto (src : Nat → Nat → Bool) (r off : Nat) (T : TypeId) (cs as : List AV) (tk : Nat → Option (Option TypeId))
def readV (P : Program) (N : Nat) (L : List Nat) (dst : Option Nat) (op : Op) (R : Eff → Prop) (st : St) : Prop := match dst with
  | some d => d < N ∧ evc P st true op ∧ (ev P st op).rootNe d = true ∧ (match op with | .assign (.tmp t) => t ≠ d | .move (.tmp t) => t ≠ d | _ => True) ∧ R (.put (fun t k => (trR P st L d op t k).isSome) d (ev P st op) (trT P st L d op))
  | none => False
def stepV (P : Program) (N : Nat) (L : List Nat) (dst : Option Nat) (op : Op) (R : Eff → Prop) (st : St) : Prop :=
  match op with
  | .alloc T => match dst, zeroP P T with
    | some d, some z => d < N ∧ z.cells.all (·.oneCell') = true ∧ R (.put noSrc d (.box T (z.cells.toList.map constCell)) (nilTk z.cells))
    | _, _ => False
  | .box T x => match dst with
    | some d => d < N ∧ st.ok true x ∧ (st.get x).shared = true ∧ (st.get x).whole = true ∧ (∀ t, x = .tmp t → t ≠ d) ∧
        R (.put (fun t k => (rhoO x (celF (st.get x) 0) t k).isSome) d (.box T (st.get x).cells) (lk (none :: celL st x)))
    | none => False
  | .store T addr x => st.ok true addr ∧ st.ok true x ∧ (st.get x).shared = true ∧ (st.get x).whole = true ∧ match st.get addr with
    | .ref r off => match st.val r with
      | .box T' cs => (st.get x).cells.length = szP P T ∧ (P.info? T).isSome = true ∧ off + (st.get x).cells.length ≤ cs.length ∧ (∀ t, x = .tmp t → t ≠ r) ∧ dst = none ∧
          R (.sto (fun t k => (rhoO x (celF (st.get x) off) t k).isSome) r off T' cs (st.get x).cells (lk (celL st x)))
      | _ => False
    | _ => False
  | .call { callee := .builtin .append, args := xs, argTypes := ats } => match xs.toList, ats.toList, dst with
    | [.tmp ts, x], [T, T'], some d => T = T' ∧ d < N ∧ st.ok true x ∧ match elemP P T, st.val ts, st.get x with
      | some E, .sl es, .sl es2 => (∃ E0, st.tok ts 0 = some E0 ∧ (E0 = none ∨ E0 = some E)) ∧ (∀ e ∈ es, e.length = szP P E) ∧ (∀ e ∈ es2, e.length = szP P E) ∧
          (es.length + es2.length) * bytesP P E ≤ 140737488355328 ∧ es.length + es2.length ≤ 9223372036854775807 ∧ 0 < szP P E ∧ (∃ z, zeroP P E = some z ∧ z.cells.size = szP P E) ∧
          R (.put (fun t k => t == ts && k == 0) d (.sl (es ++ es2)) (fun k => if k = 0 then some (some E) else none))
      | _, _, _ => False
    | _, _, _ => False
  | .call { callee := .value (.func f), args := xs, argTypes := _ } => match dst with
    | some d => d < N ∧ (∀ x ∈ xs.toList, st.ok true x) ∧ (∀ x ∈ xs.toList, (st.get x).shared = true) ∧ (∃ a rt, Has P f (xs.toList.map st.get) a rt ∧ R (.put noSrc d a rt))
    | none => False
  | .buildSlice T n parts => match dst, elemP P T with
    | some d, some E => d < N ∧ (∀ p ∈ parts.toList, st.ok true p.2 ∧ (st.get p.2).shared = true ∧ (st.get p.2).whole = true ∧ (st.get p.2).cells.length = szP P E) ∧ n * szP P E ≤ 16777216 ∧ n ≤ 16777216 ∧
        (∃ z, zeroP P E = some z ∧ z.cells.size = szP P E ∧ z.cells.all (·.oneCell') = true) ∧ parts.toList.map (·.1) = List.range n ∧
        R (.put noSrc d (.sl (parts.toList.map fun p => (st.get p.2).cells)) (fun k => if k = 0 then some (some E) else none))
    | _, _ => False
  | op => readV P N L dst op R st
def isGoCall : Op → Option (FuncId × List Operand)
  | .call { callee := .value (.func f), args := xs, argTypes := _ } => some (f, xs.toList)
  | _ => none
end Go.Proofs.YtldnkeackphilaaGreatDoor
namespace Go.Proofs.YtldnkeackphilaaGreatDoor
open Go.RowKit

theorem wp_val {P : Program} {o : Oper} {a : Act} {w w' : World} {K : Act → World → Prop} {QQ : Exit → Act → World → Prop} {v : Value} (h : (execOp a.eval o).run P w = .ok (.value v) w') (hK : K (a.put o.dst v) w') : o.wp P a w K QQ := by
  unfold Oper.wp
  rw [h]
  exact hK
theorem wp_skip' {P : Program} {o : Oper} {a : Act} {w w' : World} {K : Act → World → Prop} {QQ : Exit → Act → World → Prop} (h : (execOp a.eval o).run P w = .ok .skip w') (hK : K (a.put o.dst undef) w') : o.wp P a w K QQ := by
  unfold Oper.wp
  rw [h]
  exact hK
end Go.Proofs.YtldnkeackphilaaGreatDoor
namespace Go.Proofs.YtldnkeackphilaaGreatDoor
open Go.RowKit

end Go.Proofs.YtldnkeackphilaaGreatDoor
namespace Go.Proofs.YtldnkeackphilaaGreatDoor
open Go.RowKit

theorem run_storeAt_any {P : Program} (w : World) (b o : Nat) (ty : TypeId) (v : Value) (ht : w.there b o v.cells.size) (hi : (P.info? ty).isSome = true) (hs : v.cells.size = szP P ty) (h1 : v.cells.all (·.oneCell') = true) :
    (Instr.storeAt ty (.pointer (some ⟨b, o, none⟩)) v).run P w = .ok () (w.setCells b o v.cells.toList) := by
  have := run_storeCells_cells (P := P) b o v.cells.toList 0 w (fun j hj => by simpa using (ht j (by simpa using hj)).1) (fun j hj => by simpa using (ht j (by simpa using hj)).2)
    (fun v hv => (Array.all_eq_true_iff_forall_mem.1 h1) v (by simpa using hv))
  obtain ⟨i, hi⟩ := Option.isSome_iff_exists.1 hi
  have hs : v.cells.size = i.size := by rw [hs]; simp [szP, hi]
  simp only [Nat.add_zero] at this
  simp [Instr.storeAt, Instr.sureAddr, storeVar, sizeOf, typeInfo, hi, hs, this]
theorem fill_row {P : Program} {G : Gh} {sz : Nat} : ∀ (parts : List (Nat × Value)) (es : List (List AV)) (i n : Nat) (cells : Array Value), i + parts.length = n → parts.length = es.length → cells.size = n * sz → (∀ (j : Nat) p, parts[j]? = some p → p.1 = i + j) →
    (∀ (j : Nat) p e, parts[j]? = some p → es[j]? = some e → e.length = sz ∧ p.2.cells.size = sz ∧ ∀ (k : Nat) u b, p.2.cells[k]? = some u → e[k]? = some b → u.oneCell' = true ∧ RS G u b) →
    ∃ cells', Instr.fill (fun i => some (i * sz, sz)) cells parts = some cells' ∧ cells'.size = n * sz ∧ (∀ k, k < i * sz → cells'[k]? = cells[k]?) ∧ ∀ (k : Nat) u b, cells'[i * sz + k]? = some u → es.flatten[k]? = some b → u.oneCell' = true ∧ RS G u b
  | [], es, i, n, cells, h1, h2, h3, h4, h5 => by
    obtain rfl : es = [] := List.eq_nil_of_length_eq_zero (by simpa using h2.symm)
    exact ⟨cells, rfl, h3, fun _ _ => rfl, fun k u b _ hb => by simp at hb⟩
  | p :: parts, es, i, n, cells, h1, h2, h3, h4, h5 => by
    obtain ⟨e, es, rfl⟩ : ∃ e es', es = e :: es' := by
      cases es with
      | nil => simp at h2
      | cons e es => exact ⟨e, es, rfl⟩
    simp only [List.length_cons] at h1 h2
    obtain ⟨p1, p2⟩ := p
    have hp1 : p1 = i := h4 0 _ rfl
    subst hp1
    obtain ⟨he, hps, hpc⟩ := h5 0 _ _ rfl rfl
    have hfit : p1 * sz + sz ≤ n * sz := by
      have := Nat.mul_le_mul_right sz (show p1 + 1 ≤ n by omega)
      rw [Nat.add_mul] at this
      omega
    have hfold : ∀ (l : List Value) (j : Nat) (cs : Array Value), (l.zipIdx j).foldl (fun cs (q : Value × Nat) => cs.setIfInBounds (p1 * sz + q.2) q.1) cs = setsA cs (p1 * sz + j) l := by
      intro l
      induction l with
      | nil => intro j cs; rfl
      | cons u l ih =>
        intro j cs
        rw [List.zipIdx_cons, List.foldl_cons, ih, setsA]
        rfl
    have hstep : Instr.fill (fun i => some (i * sz, sz)) cells ((p1, p2) :: parts) = Instr.fill (fun i => some (i * sz, sz)) (setsA cells (p1 * sz) p2.cells.toList) parts := by
      simp only [Instr.fill]
      rw [if_neg (by simp [hps, h3]; omega)]
      congr 1
      have := hfold p2.cells.toList 0 cells
      rw [Nat.add_zero] at this
      rw [← this, ← Array.foldl_toList, Array.toList_zipIdx]
    obtain ⟨cells', f1, f2, f3, f4⟩ := fill_row (P := P) (G := G) (sz := sz) parts es (p1 + 1) n (setsA cells (p1 * sz) p2.cells.toList) (by omega) (by omega) (by rw [setsA_size, h3]) (fun j q hq => by have := h4 (j + 1) q hq; omega) (fun j q e hq he => h5 (j + 1) q e hq he)
    have hget := setsA_get p2.cells.toList (p1 * sz) cells (by simp [hps, h3]; omega)
    refine ⟨cells', hstep.trans f1, f2, fun k hk => ?_, fun k u b hu hb => ?_⟩
    · rw [f3 k (by rw [Nat.add_mul]; omega), hget k, if_neg (by omega)]
    · rw [List.flatten_cons] at hb
      by_cases hk : k < sz
      · rw [f3 _ (by rw [Nat.add_mul]; omega), hget, if_pos (by simp [hps]; omega)] at hu
        rw [List.getElem?_append_left (by omega)] at hb
        simp only [Nat.add_sub_cancel_left, Array.getElem?_toList] at hu
        exact hpc k u b hu hb
      · rw [List.getElem?_append_right (by omega), he] at hb
        refine f4 (k - sz) u b ?_ hb
        rw [← hu]
        congr 1
        rw [Nat.add_mul]
        omega
end Go.Proofs.YtldnkeackphilaaGreatDoor
namespace Go.Proofs.YtldnkeackphilaaGreatDoor
open Go.RowKit

end Go.Proofs.YtldnkeackphilaaGreatDoor
namespace Go.Proofs.YtldnkeackphilaaGreatDoor
open Go.RowKit

end Go.Proofs.YtldnkeackphilaaGreatDoor
namespace Go.Proofs.YtldnkeackphilaaGreatDoor
open Go.RowKit

def opT : Operand → List Nat
  | .tmp t => [t]
  | _ => []
def guardS (ds : List (Option Nat)) (o : Oper) : List Nat := match o.guard with
  | some (j, _) => (ds.getD j none).toList
  | none => []
def opnds (ds : List (Option Nat)) (o : Oper) : List Nat := (o.op.operands.toList.flatMap opT) ++ guardS ds o
def rootS (rts : List (Nat × Nat)) (t : Nat) : Nat := (rts.lookup t).getD t
def fpW (rts : List (Nat × Nat)) (o : Oper) : List Nat := o.dst.toList ++ (match o.op with
  | .store _ (.tmp a) _ => [rootS rts a]
  | _ => [])
def fpT (L : List Nat) (rts : List (Nat × Nat)) (o : Oper) : List Nat := match o.op with
  | .assign (.tmp t) => [t]
  | .move (.tmp t) => if o.dst.any L.contains then [t] else []
  | .load _ (.tmp t) => if o.dst.any L.contains then [rootS rts t] else []
  | .store _ _ (.tmp t) => [t]
  | .box _ (.tmp t) => [t]
  | .call { callee := .builtin .append, args := xs, argTypes := _ } => match xs.toList with
    | .tmp t :: _ => [t]
    | _ => []
  | _ => []
def rootOk (rts : List (Nat × Nat)) (st : St) (t : Nat) : Prop := match st.val t with
  | .ref r _ => r = rootS rts t
  | .cnd _ (.ref r _) => r = rootS rts t
  | .box _ _ => rootS rts t = t
  | .dead => False
  | _ => True
def AV.rootIn (V : List Nat) : AV → Prop
  | .ref r _ => r ∈ V
  | .cnd _ (.ref r _) => r ∈ V
  | _ => True
end Go.Proofs.YtldnkeackphilaaGreatDoor
namespace Go.Proofs.YtldnkeackphilaaGreatDoor
open Go.RowKit

end Go.Proofs.YtldnkeackphilaaGreatDoor
namespace Go.Proofs.YtldnkeackphilaaGreatDoor
open Go.RowKit

theorem killR_comm (d d' : Nat) (a : AV) : (a.killR d).killR d' = (a.killR d').killR d := by
  cases a with
  | ref r off =>
    by_cases e : r = d
    · subst e
      by_cases e' : r = d'
      · subst e'; rfl
      · simp [AV.killR, e']
    · by_cases e' : r = d'
      · subst e'; simp [AV.killR, e]
      · simp [AV.killR, e, e']
  | cnd y b =>
    cases b with
    | ref r off =>
      by_cases e : r = d
      · subst e
        by_cases e' : r = d'
        · subst e'; rfl
        · simp [AV.killR, e']
      · by_cases e' : r = d'
        · subst e'; simp [AV.killR, e]
        · simp [AV.killR, e, e']
    | _ => rfl
  | _ => rfl
def Dj (A B : List Nat) : Prop := ∀ u ∈ A, u ∉ B
end Go.Proofs.YtldnkeackphilaaGreatDoor
namespace Go.Proofs.YtldnkeackphilaaGreatDoor
open Go.RowKit

def cloL : List Oper → List (List Nat) → List (List Nat)
  | [], acc => acc
  | o :: os, acc => cloL os (acc ++ [((o.after.toList.filter (Region.binds .any)).flatMap fun e => e.on :: acc.getD e.on []).eraseDups])
def djB (A B : List Nat) : Bool := A.all fun u => !B.contains u
theorem djB_spec {A B : List Nat} (h : djB A B = true) : Dj A B := fun u hu hb => by
  have := List.all_eq_true.1 h u hu
  simp [hb] at this
theorem cloL_spec {S : Nat → Prop} : ∀ (os : List Oper) (acc : List (List Nat)), (∀ (i : Nat) o, os[i]? = some o → S (acc.length + i) → ∀ e ∈ o.after, Region.binds .any e = true → S e.on) → (∀ k, S k → ∀ u ∈ acc.getD k [], S u) → ∀ k, S k → ∀ u ∈ (cloL os acc).getD k [], S u
  | [], acc, _, h => h
  | o :: os, acc, hos, h => by
    refine cloL_spec os _ (fun i o' hi hS => ?_) ?_
    · refine hos (i + 1) o' (by simpa using hi) ?_
      rwa [List.length_append, List.length_singleton, Nat.add_assoc, Nat.add_comm 1 i] at hS
    · intro k hk u hu
      rw [List.getD_eq_getElem?_getD] at hu
      by_cases hlt : k < acc.length
      · rw [List.getElem?_append_left hlt] at hu
        exact h k hk u (by rwa [List.getD_eq_getElem?_getD])
      · by_cases he : k = acc.length
        · subst he
          rw [List.getElem?_append_right (Nat.le_refl _)] at hu
          simp only [Nat.sub_self, List.getElem?_cons_zero, Option.getD_some] at hu
          rw [List.mem_eraseDups, List.mem_flatMap] at hu
          obtain ⟨e, he, hu⟩ := hu
          obtain ⟨he1, he2⟩ := List.mem_filter.1 he
          have hS := hos 0 o rfl hk e (by simpa using he1) he2
          rcases List.mem_cons.1 hu with rfl | hu
          · exact hS
          · exact h _ hS u hu
        · rw [List.getElem?_eq_none (by simp; omega)] at hu
          cases hu
def cntF : List Bool → Nat
  | [] => 0
  | b :: l => (if b then 0 else 1) + cntF l
theorem cntF_set : ∀ {l : List Bool} {i : Nat}, l[i]? = some false → cntF (l.set i true) + 1 = cntF l
  | [], _, h => by simp at h
  | b :: l, 0, h => by simp at h; subst h; simp [cntF]; omega
  | b :: l, i + 1, h => by
    have := cntF_set (l := l) (i := i) (by simpa using h)
    simp only [List.set_cons_succ, cntF]
    omega
theorem cntF_zero : ∀ {l : List Bool}, cntF l = 0 → ∀ i, i < l.length → l[i]? = some true
  | [], _, i, h => by simp at h
  | b :: l, h, i, hi => by
    simp only [cntF] at h
    cases b with
    | false => simp at h
    | true =>
      cases i with
      | zero => rfl
      | succ i => simpa using cntF_zero (l := l) (by simpa using h) i (by simpa using hi)
theorem cntF_rep (n : Nat) : cntF (List.replicate n false) = n := by
  induction n with
  | zero => rfl
  | succ n ih => simp [List.replicate_succ, cntF, ih]; omega
end Go.Proofs.YtldnkeackphilaaGreatDoor
namespace Go.Proofs.YtldnkeackphilaaGreatDoor
open Go.RowKit

end Go.Proofs.YtldnkeackphilaaGreatDoor
namespace Go.Proofs.YtldnkeackphilaaGreatDoor
open Go.RowKit

def AV.trimR (kp : List Nat) : AV → AV
  | .ref r off => if kp.contains r then .ref r off else .dead
  | .cnd _ _ => .dead
  | a => a
end Go.Proofs.YtldnkeackphilaaGreatDoor
namespace Go.Proofs.YtldnkeackphilaaGreatDoor
open Go.RowKit

theorem run_mapM {P : Program} {w : World} {g : ResultVar → Sem Value} : ∀ (l : List ResultVar) (f : ResultVar → Value), (∀ r ∈ l, (g r).run P w = .ok (f r) w) → (l.mapM g).run P w = .ok (l.map f) w
  | [], f, _ => rfl
  | r :: l, f, h => by
    have ih := run_mapM l f fun r' hr => h r' (by simp [hr])
    rw [List.mapM_cons, Sem.run_bind, h r (by simp), Result.andThen_ok, Sem.run_bind, ih]
    rfl
def resV (tm : Array Value) (w : World) (P : Program) : ResultVar → Value
  | .tmp t => tm.getD t undef
  | .cell t T => match (do loadVar T (← asAddr (tm.getD t undef)) : Sem Value).run P w with
    | .ok v _ => v
    | _ => undef
theorem run_results {P : Program} {w : World} (fn : Func) (tm : Array Value) (h : ∀ r ∈ fn.results.toList, ∀ t T, r = .cell t T → (do loadVar T (← asAddr (tm.getD t undef)) : Sem Value).run P w = .ok (resV tm w P r) w) :
    (results fn tm).run P w = .ok (match fn.results.toList with | [r] => resV tm w P r | rs => .tuple (rs.map (resV tm w P)).toArray) w := by
  have hm := run_mapM (P := P) (w := w) (g := fun
    | .tmp t => pure (tm.getD t undef)
    | .cell a t => do loadVar t (← asAddr (tm.getD a undef))) fn.results.toList (resV tm w P) (fun r hr => by
    cases r with
    | tmp t => rfl
    | cell t T => exact h _ hr t T rfl)
  unfold results
  rw [Array.mapM_eq_mapM_toList, Sem.run_bind, Sem.run_map]
  erw [hm]
  simp only [Result.andThen_ok, Sem.run_pure]
  congr 1
  generalize fn.results.toList = rs
  match rs with
  | [] => rfl
  | [r] => rfl
  | r :: r' :: rs => rfl
end Go.Proofs.YtldnkeackphilaaGreatDoor
namespace Go.Proofs.YtldnkeackphilaaGreatDoor
open Go.RowKit

def zbox (P : Program) (T : TypeId) : Option (List AV × List (Option (Option TypeId))) := match zeroP P T with
  | some z => if z.cells.all (·.oneCell') then some (z.cells.toList.map constCell, none :: z.cells.toList.map fun v => if isNilS v then some none else none) else none
  | none => none
def ptrP (P : Program) (T : TypeId) : Bool := match P.underlying T with
  | some (.pointer _) => true
  | _ => false
def ifcP (P : Program) (T : TypeId) : Bool := match P.underlying T with
  | some (.interface _) => true
  | _ => false
def undP (P : Program) (T : TypeId) : Bool := (P.underlying T).isSome
def infP (P : Program) (T : TypeId) : Bool := (P.info? T).isSome
def zokP (P : Program) (T : TypeId) : Bool := match zeroP P T with
  | some z => z.cells.size == szP P T && z.cells.all (·.oneCell')
  | none => false
def fldP (P : Program) (S : TypeId) (f : Nat) : Option (Nat × TypeId) := match P.underlying S with
  | some (.struct fs) => (fs[f]?).map fun fl => (fl.offset, fl.type)
  | _ => none
theorem zok_eq (P : Program) (E : TypeId) : (∃ z, zeroP P E = some z ∧ z.cells.size = szP P E ∧ z.cells.all (·.oneCell') = true) = (zokP P E = true) := by
  unfold zokP
  cases zeroP P E with
  | none => simp
  | some z => simp
def zszP (P : Program) (T : TypeId) : Bool := match zeroP P T with
  | some z => z.cells.size == szP P T
  | none => false
theorem zsz_of (P : Program) (E : TypeId) (h : zokP P E = true) : zszP P E = true := by
  unfold zokP at h
  unfold zszP
  cases hz : zeroP P E with
  | none => rw [hz] at h; cases h
  | some z => rw [hz] at h; simp only [Bool.and_eq_true] at h; exact h.1
end Go.Proofs.YtldnkeackphilaaGreatDoor
namespace Go.Proofs.YtldnkeackphilaaGreatDoor.X
open Go.RowKit

structure NV where
  blk : Option Nat
  cap : Nat
  sz : Nat
abbrev Nu := Nat → Option NV
inductive RN (G : Gh) (ν : Nu) : Value → AV → Prop
  | sh {v : Value} {a : AV} (h : RS G v a) : RN G ν v a
  | nl : RN G ν (.slice none 0 0) .nl
  | ref (n off g cap sz : Nat) (h : ν n = some ⟨some g, cap, sz⟩) : RN G ν (.pointer (some ⟨g, off, none⟩)) (.ref n off)
  | elt (n i j g cap sz : Nat) (h : ν n = some ⟨some g, cap, sz⟩) : RN G ν (.pointer (some ⟨g, i * sz + j, none⟩)) (.elt n i j)
  | rw (n lo len g cap sz o : Nat) (h : ν n = some ⟨some g, cap, sz⟩) (hc : lo + len ≤ cap) (ho : lo < cap ∨ lo = 0 → o = lo * sz) : RN G ν (.slice (some ⟨g, o, none⟩) len (cap - lo)) (.rw n lo len)
  | rw0 (n cap sz : Nat) (h : ν n = some ⟨none, cap, sz⟩) : RN G ν (.slice none 0 0) (.rw n 0 0)
  | agg (vs : Array Value) (cs : List AV) (hl : vs.size = cs.length) (h1 : ∀ (j : Nat) (v : Value), vs[j]? = some v → v.oneCell' = true) (h : ∀ (j : Nat) (v : Value) (a : AV), vs[j]? = some v → cs[j]? = some a → RN G ν v a) : RN G ν (.agg vs) (.agg cs)
  | tup (vs : Array Value) (cs : List AV) (hl : vs.size = cs.length) (h : ∀ (j : Nat) (v : Value) (a : AV), vs[j]? = some v → cs[j]? = some a → RN G ν v a) : RN G ν (.tuple vs) (.tup cs)
  | ifc (t : TypeId) (v : Value) (a : AV) (h : RN G ν v a) : RN G ν (.iface t v) (.ifc t a)
  | fnc (f : Nat) (vs : Array Value) (cs : List AV) (hl : vs.size = cs.length) (h : ∀ (j : Nat) (v : Value) (a : AV), vs[j]? = some v → cs[j]? = some a → RN G ν v a) : RN G ν (.func (.func f) #[] vs) (.fnc f cs)
def Ext (ν ν' : Nu) : Prop := ∀ n x, ν n = some x → ν' n = some x
theorem Ext.refl (ν : Nu) : Ext ν ν := fun _ _ h => h
theorem RN.mono {G H : Gh} {ν ν' : Nu} (hg : Gle G H) (hn : Ext ν ν') {v : Value} {a : AV} (h : RN G ν v a) : RN H ν' v a := by
  induction h with
  | sh h => exact .sh (h.mono hg)
  | nl => exact .nl
  | ref n off g cap sz h => exact .ref n off g cap sz (hn _ _ h)
  | elt n i j g cap sz h => exact .elt n i j g cap sz (hn _ _ h)
  | rw n lo len g cap sz o h hc ho => exact .rw n lo len g cap sz o (hn _ _ h) hc ho
  | rw0 n cap sz h => exact .rw0 n cap sz (hn _ _ h)
  | agg vs cs hl h1 _ ih => exact .agg vs cs hl h1 ih
  | tup vs cs hl _ ih => exact .tup vs cs hl ih
  | ifc t v a _ ih => exact .ifc t v a ih
  | fnc f vs cs hl _ ih => exact .fnc f vs cs hl ih
section
variable {G : Gh} {ν : Nu} {v : Value}
theorem RN.immI {x : Value} (h : RN G ν v (.imm x)) : v = x ∧ x.oneCell' = true := by
  cases h with
  | sh h => cases h with
    | imm v h => exact ⟨rfl, h⟩
theorem RN.slI {es : List (List AV)} (h : RN G ν v (.sl es)) : RS G v (.sl es) := by
  cases h with
  | sh h => exact h
theorem RN.ptrI {cs : List AV} (h : RN G ν v (.ptr cs)) : ∃ g o, v = .pointer (some ⟨g, o, none⟩) ∧ ∀ (j : Nat) a, cs[j]? = some a → G g (o + j) a := by
  cases h with
  | sh h => cases h with
    | ptr g o cs h => exact ⟨g, o, rfl, h⟩
theorem RN.nlI (h : RN G ν v .nl) : v = .slice none 0 0 := by
  cases h with
  | sh h => cases h
  | nl => rfl
theorem RN.refI {n off : Nat} (h : RN G ν v (.ref n off)) : ∃ g cap sz, ν n = some ⟨some g, cap, sz⟩ ∧ v = .pointer (some ⟨g, off, none⟩) := by
  cases h with
  | sh h => cases h
  | ref n off g cap sz h => exact ⟨g, cap, sz, h, rfl⟩
theorem RN.eltI {n i j : Nat} (h : RN G ν v (.elt n i j)) : ∃ g cap sz, ν n = some ⟨some g, cap, sz⟩ ∧ v = .pointer (some ⟨g, i * sz + j, none⟩) := by
  cases h with
  | sh h => cases h
  | elt n i j g cap sz h => exact ⟨g, cap, sz, h, rfl⟩
theorem RN.rwI {n lo len : Nat} (h : RN G ν v (.rw n lo len)) : (∃ cap sz, ν n = some ⟨none, cap, sz⟩ ∧ v = .slice none 0 0 ∧ lo = 0 ∧ len = 0) ∨ ∃ g cap sz o, ν n = some ⟨some g, cap, sz⟩ ∧ v = .slice (some ⟨g, o, none⟩) len (cap - lo) ∧ lo + len ≤ cap ∧ (lo < cap ∨ lo = 0 → o = lo * sz) := by
  cases h with
  | sh h => cases h
  | rw n lo len g cap sz o h hc ho => exact .inr ⟨g, cap, sz, o, h, rfl, hc, ho⟩
  | rw0 n cap sz h => exact .inl ⟨cap, sz, h, rfl, rfl, rfl⟩
theorem RN.aggI {cs : List AV} (h : RN G ν v (.agg cs)) : ∃ vs, v = .agg vs ∧ vs.size = cs.length ∧ (∀ (j : Nat) (v : Value), vs[j]? = some v → v.oneCell' = true) ∧ ∀ (j : Nat) (v : Value) (a : AV), vs[j]? = some v → cs[j]? = some a → RN G ν v a := by
  cases h with
  | sh h => cases h with
    | agg vs cs hl h1 h => exact ⟨vs, rfl, hl, h1, fun j v a e1 e2 => .sh (h j v a e1 e2)⟩
  | agg vs cs hl h1 h => exact ⟨vs, rfl, hl, h1, h⟩
theorem RN.tupI {cs : List AV} (h : RN G ν v (.tup cs)) : ∃ vs, v = .tuple vs ∧ vs.size = cs.length ∧ ∀ (j : Nat) (v : Value) (a : AV), vs[j]? = some v → cs[j]? = some a → RN G ν v a := by
  cases h with
  | sh h => cases h with
    | tup vs cs hl h => exact ⟨vs, rfl, hl, fun j v a e1 e2 => .sh (h j v a e1 e2)⟩
  | tup vs cs hl h => exact ⟨vs, rfl, hl, h⟩
theorem RN.ifcI {t : TypeId} {a : AV} (h : RN G ν v (.ifc t a)) : ∃ u, v = .iface t u ∧ RN G ν u a := by
  cases h with
  | sh h => cases h with
    | ifc t v a h => exact ⟨v, rfl, .sh h⟩
  | ifc t v a h => exact ⟨v, rfl, h⟩
theorem RN.fncI {f : Nat} {cs : List AV} (h : RN G ν v (.fnc f cs)) : ∃ vs, v = .func (.func f) #[] vs ∧ vs.size = cs.length ∧ ∀ (j : Nat) (v : Value) (a : AV), vs[j]? = some v → cs[j]? = some a → RN G ν v a := by
  cases h with
  | sh h => cases h
  | fnc f vs cs hl h => exact ⟨vs, rfl, hl, h⟩
theorem RN.cndI {y : Bool} {a : AV} (h : RN G ν v (.cnd y a)) : False := by
  cases h with
  | sh h => cases h
theorem RN.cells {a : AV} (h : RN G ν v a) (hw : a.whole = true) : v.cells.size = a.cells.length ∧ ∀ (j : Nat) u b, v.cells[j]? = some u → a.cells[j]? = some b → RN G ν u b ∧ u.oneCell' = true := by
  have one : ∀ {v : Value} {a : AV}, RN G ν v a → v.oneCell' = true → v.cells = #[v] → a.cells = [a] → v.cells.size = a.cells.length ∧ ∀ (j : Nat) u b, v.cells[j]? = some u → a.cells[j]? = some b → RN G ν u b ∧ u.oneCell' = true := by
    intro v a h h1 hv ha
    rw [hv, ha]
    refine ⟨rfl, fun j u b hu hb => ?_⟩
    cases j with
    | zero => simp at hu hb; subst hu hb; exact ⟨h, h1⟩
    | succ j => simp at hb
  cases h with
  | sh h =>
    obtain ⟨h1, h2⟩ := h.cells hw
    exact ⟨h1, fun j u b e1 e2 => ⟨.sh (h2 j u b e1 e2).1, (h2 j u b e1 e2).2⟩⟩
  | nl => exact one .nl rfl rfl rfl
  | ref n off g cap sz h => exact one (.ref n off g cap sz h) rfl rfl rfl
  | elt n i j g cap sz h => exact one (.elt n i j g cap sz h) rfl rfl rfl
  | rw n lo len g cap sz o h hc ho => exact one (.rw n lo len g cap sz o h hc ho) rfl rfl rfl
  | rw0 n cap sz h => exact one (.rw0 n cap sz h) rfl rfl rfl
  | agg vs cs hl h1 h => exact ⟨hl, fun j u b hu hb => ⟨h j u b hu hb, h1 j u hu⟩⟩
  | tup => cases hw
  | ifc t v a h => exact one (.ifc t v a h) rfl rfl rfl
  | fnc f vs cs hl h => exact one (.fnc f vs cs hl h) rfl rfl rfl
end
inductive Blk where
  | box (T : TypeId) (cs : List AV)
  | row (E : TypeId) (es : List (List AV))
instance : Inhabited Blk := ⟨.box 0 []⟩
mutual
def pureA : AV → Bool
  | .imm _ => true
  | .sl _ => true
  | .ptr _ => true
  | .nl => true
  | .agg cs => pureL cs
  | .tup cs => pureL cs
  | .ifc _ a => pureA a
  | _ => false
def pureL : List AV → Bool
  | [] => true
  | a :: l => pureA a && pureL l
end
mutual
def fixA : AV → AV
  | .nl => .sl []
  | .agg cs => .agg (fixL cs)
  | .tup cs => .tup (fixL cs)
  | .ifc t a => .ifc t (fixA a)
  | a => a
def fixL : List AV → List AV
  | [] => []
  | a :: l => fixA a :: fixL l
end
def subR (off : Nat) (a : AV) : Blk → AV
  | .box _ cs => .ptr (cs.drop off)
  | _ => a
def subE (i j : Nat) (a : AV) : Blk → AV
  | .row _ es => .ptr ((es.getD i []).drop j)
  | _ => a
def subS (lo len : Nat) (a : AV) : Blk → AV
  | .row _ es => if lo + len ≤ es.length then .sl ((es.drop lo).take len) else a
  | _ => a
mutual
def subA (n : Nat) (B : Blk) : AV → AV
  | .ref m off => if m = n then subR off (.ref m off) B else .ref m off
  | .elt m i j => if m = n then subE i j (.elt m i j) B else .elt m i j
  | .rw m lo len => if m = n then subS lo len (.rw m lo len) B else .rw m lo len
  | .agg cs => .agg (subL n B cs)
  | .tup cs => .tup (subL n B cs)
  | .ifc t a => .ifc t (subA n B a)
  | a => a
def subL (n : Nat) (B : Blk) : List AV → List AV
  | [] => []
  | a :: l => subA n B a :: subL n B l
end
def subK (n : Nat) (B : Blk) : Blk → Blk
  | .box T cs => .box T (subL n B cs)
  | .row E es => .row E es
mutual
def refsA : AV → List Nat
  | .ref n _ => [n]
  | .elt n _ _ => [n]
  | .rw n _ _ => [n]
  | .agg cs => refsL cs
  | .tup cs => refsL cs
  | .ifc _ a => refsA a
  | .fnc _ cs => refsL cs
  | .cnd _ a => refsA a
  | _ => []
def refsL : List AV → List Nat
  | [] => []
  | a :: l => refsA a ++ refsL l
end
def refsK : Blk → List Nat
  | .box _ cs => refsL cs
  | .row _ _ => []
mutual
def renA (σ : Nat → Nat) : AV → AV
  | .ref n off => .ref (σ n) off
  | .elt n i j => .elt (σ n) i j
  | .rw n lo len => .rw (σ n) lo len
  | .agg cs => .agg (renL σ cs)
  | .tup cs => .tup (renL σ cs)
  | .ifc t a => .ifc t (renA σ a)
  | .fnc f cs => .fnc f (renL σ cs)
  | a => a
def renL (σ : Nat → Nat) : List AV → List AV
  | [] => []
  | a :: l => renA σ a :: renL σ l
end
def renK (σ : Nat → Nat) : Blk → Blk
  | .box T cs => .box T (renL σ cs)
  | .row E es => .row E es
theorem fixL_get : ∀ (cs : List AV) (j : Nat), (fixL cs)[j]? = (cs[j]?).map fixA
  | [], j => by simp [fixL]
  | c :: cs, 0 => by simp [fixL]
  | c :: cs, j + 1 => by simp [fixL, fixL_get cs j]
theorem subL_get (n : Nat) (B : Blk) : ∀ (cs : List AV) (j : Nat), (subL n B cs)[j]? = (cs[j]?).map (subA n B)
  | [], j => by simp [subL]
  | c :: cs, 0 => by simp [subL]
  | c :: cs, j + 1 => by simp [subL, subL_get n B cs j]
theorem renL_get (σ : Nat → Nat) : ∀ (cs : List AV) (j : Nat), (renL σ cs)[j]? = (cs[j]?).map (renA σ)
  | [], j => by simp [renL]
  | c :: cs, 0 => by simp [renL]
  | c :: cs, j + 1 => by simp [renL, renL_get σ cs j]
theorem fixL_len : ∀ (cs : List AV), (fixL cs).length = cs.length
  | [] => rfl
  | c :: cs => by simp [fixL, fixL_len cs]
theorem subL_len (n : Nat) (B : Blk) : ∀ (cs : List AV), (subL n B cs).length = cs.length
  | [] => rfl
  | c :: cs => by simp [subL, subL_len n B cs]
theorem renL_len (σ : Nat → Nat) : ∀ (cs : List AV), (renL σ cs).length = cs.length
  | [] => rfl
  | c :: cs => by simp [renL, renL_len σ cs]
theorem pureL_get : ∀ {cs : List AV}, pureL cs = true → ∀ {j : Nat} {a : AV}, cs[j]? = some a → pureA a = true
  | [], _, j, a, h => by simp at h
  | c :: cs, hp, 0, a, h => by simp at h; subst h; simp only [pureL, Bool.and_eq_true] at hp; exact hp.1
  | c :: cs, hp, j + 1, a, h => by simp only [pureL, Bool.and_eq_true] at hp; exact pureL_get hp.2 (by simpa using h)
theorem refsL_get : ∀ {cs : List AV} {j : Nat} {a : AV}, cs[j]? = some a → ∀ n ∈ refsA a, n ∈ refsL cs
  | [], j, a, h => by simp at h
  | c :: cs, 0, a, h => by simp at h; subst h; intro n hn; simp [refsL, hn]
  | c :: cs, j + 1, a, h => by intro n hn; simp only [refsL, List.mem_append]; exact .inr (refsL_get (cs := cs) (j := j) (by simpa using h) n hn)
theorem rs_fix {G : Gh} {v : Value} {a : AV} (h : RS G v a) : RS G v (fixA a) := by
  induction h with
  | imm v h => exact .imm v h
  | nil => exact .nil
  | sl g o sz c es hsz hc hcell => exact .sl g o sz c es hsz hc hcell
  | ptr g o cs hcell => exact .ptr g o cs hcell
  | agg vs cs hl h1 _ ih =>
    refine .agg vs _ (by rw [fixL_len]; exact hl) h1 fun j v a hv ha => ?_
    rw [fixL_get] at ha
    obtain ⟨b, hb, rfl⟩ := Option.map_eq_some_iff.1 ha
    exact ih j v b hv hb
  | tup vs cs hl _ ih =>
    refine .tup vs _ (by rw [fixL_len]; exact hl) fun j v a hv ha => ?_
    rw [fixL_get] at ha
    obtain ⟨b, hb, rfl⟩ := Option.map_eq_some_iff.1 ha
    exact ih j v b hv hb
  | ifc t v a _ ih => exact .ifc t v _ ih
theorem rs_ren {G : Gh} {v : Value} {a : AV} (h : RS G v a) (σ : Nat → Nat) : RS G v (renA σ a) := by
  induction h with
  | imm v h => exact .imm v h
  | nil => exact .nil
  | sl g o sz c es hsz hc hcell => exact .sl g o sz c es hsz hc hcell
  | ptr g o cs hcell => exact .ptr g o cs hcell
  | agg vs cs hl h1 _ ih =>
    refine .agg vs _ (by rw [renL_len]; exact hl) h1 fun j v a hv ha => ?_
    rw [renL_get] at ha
    obtain ⟨b, hb, rfl⟩ := Option.map_eq_some_iff.1 ha
    exact ih j v b hv hb
  | tup vs cs hl _ ih =>
    refine .tup vs _ (by rw [renL_len]; exact hl) fun j v a hv ha => ?_
    rw [renL_get] at ha
    obtain ⟨b, hb, rfl⟩ := Option.map_eq_some_iff.1 ha
    exact ih j v b hv hb
  | ifc t v a _ ih => exact .ifc t v _ ih
theorem RN.toRS {G : Gh} {ν : Nu} {v : Value} {a : AV} (h : RN G ν v a) : pureA a = true → RS G v (fixA a) := by
  induction h with
  | sh h => exact fun _ => rs_fix h
  | nl => exact fun _ => .nil
  | ref | elt | rw | rw0 | fnc => exact fun h => by simp [pureA] at h
  | agg vs cs hl h1 _ ih =>
    intro hp
    refine .agg vs _ (by rw [fixL_len]; exact hl) h1 fun j v a hv ha => ?_
    rw [fixL_get] at ha
    obtain ⟨b, hb, rfl⟩ := Option.map_eq_some_iff.1 ha
    exact ih j v b hv hb (pureL_get (by simpa [pureA] using hp) hb)
  | tup vs cs hl _ ih =>
    intro hp
    refine .tup vs _ (by rw [fixL_len]; exact hl) fun j v a hv ha => ?_
    rw [fixL_get] at ha
    obtain ⟨b, hb, rfl⟩ := Option.map_eq_some_iff.1 ha
    exact ih j v b hv hb (pureL_get (by simpa [pureA] using hp) hb)
  | ifc t v a _ ih => exact fun hp => .ifc t v _ (ih (by simpa [pureA] using hp))
theorem RN.ren {G : Gh} {ν ν' : Nu} {σ : Nat → Nat} {v : Value} {a : AV} (h : RN G ν v a) : (∀ n ∈ refsA a, ∀ x, ν n = some x → ν' (σ n) = some x) → RN G ν' v (renA σ a) := by
  induction h with
  | sh h => exact fun _ => .sh (rs_ren h σ)
  | nl => exact fun _ => .nl
  | ref n off g cap sz h => exact fun k => .ref _ off g cap sz (k n (by simp [refsA]) _ h)
  | elt n i j g cap sz h => exact fun k => .elt _ i j g cap sz (k n (by simp [refsA]) _ h)
  | rw n lo len g cap sz o h hc ho => exact fun k => .rw _ lo len g cap sz o (k n (by simp [refsA]) _ h) hc ho
  | rw0 n cap sz h => exact fun k => .rw0 _ cap sz (k n (by simp [refsA]) _ h)
  | agg vs cs hl h1 _ ih =>
    intro k
    refine .agg vs _ (by rw [renL_len]; exact hl) h1 fun j v a hv ha => ?_
    rw [renL_get] at ha
    obtain ⟨b, hb, rfl⟩ := Option.map_eq_some_iff.1 ha
    exact ih j v b hv hb fun n hn => k n (by simp only [refsA]; exact refsL_get hb n hn)
  | tup vs cs hl _ ih =>
    intro k
    refine .tup vs _ (by rw [renL_len]; exact hl) fun j v a hv ha => ?_
    rw [renL_get] at ha
    obtain ⟨b, hb, rfl⟩ := Option.map_eq_some_iff.1 ha
    exact ih j v b hv hb fun n hn => k n (by simp only [refsA]; exact refsL_get hb n hn)
  | ifc t v a _ ih => exact fun k => .ifc t v _ (ih fun n hn => k n (by simpa [refsA] using hn))
  | fnc f vs cs hl _ ih =>
    intro k
    refine .fnc f vs _ (by rw [renL_len]; exact hl) fun j v a hv ha => ?_
    rw [renL_get] at ha
    obtain ⟨b, hb, rfl⟩ := Option.map_eq_some_iff.1 ha
    exact ih j v b hv hb fun n hn => k n (by simp only [refsA]; exact refsL_get hb n hn)
theorem rs_sub {G : Gh} {v : Value} {a : AV} (h : RS G v a) (n : Nat) (B : Blk) : RS G v (subA n B a) := by
  induction h with
  | imm v h => exact .imm v h
  | nil => exact .nil
  | sl g o sz c es hsz hc hcell => exact .sl g o sz c es hsz hc hcell
  | ptr g o cs hcell => exact .ptr g o cs hcell
  | agg vs cs hl h1 _ ih =>
    refine .agg vs _ (by rw [subL_len]; exact hl) h1 fun j v a hv ha => ?_
    rw [subL_get] at ha
    obtain ⟨b, hb, rfl⟩ := Option.map_eq_some_iff.1 ha
    exact ih j v b hv hb
  | tup vs cs hl _ ih =>
    refine .tup vs _ (by rw [subL_len]; exact hl) fun j v a hv ha => ?_
    rw [subL_get] at ha
    obtain ⟨b, hb, rfl⟩ := Option.map_eq_some_iff.1 ha
    exact ih j v b hv hb
  | ifc t v a _ ih => exact .ifc t v _ ih
def openG (B : Blk) : Nat → Option AV := fun j => match B with
  | .box _ cs => cs[j]?
  | .row _ es => es.flatten[j]?
def blkOf (ν : Nu) (n : Nat) : Option Nat := (ν n).bind (·.blk)
def BlkR (P : Program) (G : Gh) (ν : Nu) (w : World) (n : Nat) : Blk → Prop
  | .box T cs => ∃ g cap sz, ν n = some ⟨some g, cap, sz⟩ ∧ (∀ i a, ¬ G g i a) ∧ ∃ vs, w.heap[g]? = some (.cells vs T (0, 0)) ∧ vs.size = cs.length ∧ ∀ (j : Nat) v a, vs[j]? = some v → cs[j]? = some a → v.oneCell' = true ∧ RN G ν v a
  | .row E es => (∀ e ∈ es, e.length = szP P E) ∧ ((∃ cap, ν n = some ⟨none, cap, szP P E⟩ ∧ es = []) ∨ ∃ g cap, ν n = some ⟨some g, cap, szP P E⟩ ∧ (∀ i a, ¬ G g i a) ∧ es.length ≤ cap ∧ cap ≤ maxLen ∧ ∃ vs, w.heap[g]? = some (.cells vs E (0, 0)) ∧ vs.size = cap * szP P E ∧
      ∀ (j : Nat) v a, vs[j]? = some v → es.flatten[j]? = some a → v.oneCell' = true ∧ RS G v a)
theorem BlkR.keep {P : Program} {G G' : Gh} {ν ν' : Nu} {w w' : World} {n : Nat} {B : Blk} (h : BlkR P G ν w n B) (hle : Gle G G') (hx : Ext ν ν') (hk : ∀ g, blkOf ν n = some g → w'.heap[g]? = w.heap[g]? ∧ G' g = G g) : BlkR P G' ν' w' n B := by
  cases B with
  | box T cs =>
    obtain ⟨g, cap, sz, h1, h2, vs, h3, h4, h5⟩ := h
    obtain ⟨k1, k2⟩ := hk g (by simp [blkOf, h1])
    exact ⟨g, cap, sz, hx _ _ h1, fun i a => by rw [k2]; exact h2 i a, vs, k1.trans h3, h4, fun j v a e1 e2 => ⟨(h5 j v a e1 e2).1, (h5 j v a e1 e2).2.mono hle hx⟩⟩
  | row E es =>
    obtain ⟨h0, h⟩ := h
    refine ⟨h0, ?_⟩
    rcases h with ⟨cap, h1, h2⟩ | ⟨g, cap, h1, h2, h3, h4, vs, h5, h6, h7⟩
    · exact .inl ⟨cap, hx _ _ h1, h2⟩
    · obtain ⟨k1, k2⟩ := hk g (by simp [blkOf, h1])
      exact .inr ⟨g, cap, hx _ _ h1, fun i a => by rw [k2]; exact h2 i a, h3, h4, vs, k1.trans h5, h6, fun j v a e1 e2 => ⟨(h7 j v a e1 e2).1, (h7 j v a e1 e2).2.mono hle⟩⟩
theorem BlkR.lt {P : Program} {G : Gh} {ν : Nu} {w : World} {n : Nat} {B : Blk} (h : BlkR P G ν w n B) {g : Nat} (hg : blkOf ν n = some g) : g < w.heap.size ∧ ∀ i a, ¬ G g i a := by
  have key : ∀ {o : Obj}, w.heap[g]? = some o → g < w.heap.size := fun h => (Array.getElem?_eq_some_iff.1 h).1
  cases B with
  | box T cs =>
    obtain ⟨g', cap, sz, h1, h2, vs, h3, h4, h5⟩ := h
    have : g' = g := by simpa [blkOf, h1] using hg
    subst this
    exact ⟨key h3, h2⟩
  | row E es =>
    obtain ⟨h0, h⟩ := h
    rcases h with ⟨cap, h1, h2⟩ | ⟨g', cap, h1, h2, h3, h4, vs, h5, h6, h7⟩
    · simp [blkOf, h1] at hg
    · have : g' = g := by simpa [blkOf, h1] using hg
      subst this
      exact ⟨key h5, h2⟩
structure St where
  val : Nat → AV
  blk : Nat → Option Blk
  usd : Nat → Bool
structure Cx where
  G : Gh
  w : World
  F : Nat → Prop
  K : Nat → Option NV
inductive RV2 (G : Gh) (ν : Nu) : Value → AV → Prop
  | x {v : Value} {a : AV} (h : RN G ν v a) : RV2 G ν v a
  | cnd (y : Bool) (v : Value) (a : AV) (h1 : y = true → RN G ν v a) (h2 : y = false → v = undef) : RV2 G ν v (.cnd y a)
  | dead (v : Value) : RV2 G ν v .dead
theorem RV2.mono {G H : Gh} {ν ν' : Nu} (hg : Gle G H) (hn : Ext ν ν') {v : Value} {a : AV} (h : RV2 G ν v a) : RV2 H ν' v a := by
  cases h with
  | x h => exact .x (h.mono hg hn)
  | cnd y v a h1 h2 => exact .cnd y v a (fun hy => (h1 hy).mono hg hn) h2
  | dead => exact .dead _
structure Frm (C : Cx) (G : Gh) (w : World) : Prop where
  os : w.os = C.w.os
  tape : w.tape = C.w.tape
  output : w.output = C.w.output
  size : C.w.heap.size ≤ w.heap.size
  le : Gle C.G G
  old : ∀ g, g < C.w.heap.size → ¬ C.F g → w.heap[g]? = C.w.heap[g]? ∧ G g = C.G g
structure Inv (P : Program) (N : Nat) (C : Cx) (G : Gh) (ν : Nu) (w : World) (tm : Array Value) (st : St) : Prop where
  size : tm.size = N
  cells : CellsR G w
  vals : ∀ t, RV2 G ν (tm.getD t undef) (st.val t)
  blks : ∀ n B, st.blk n = some B → BlkR P G ν w n B
  inj : ∀ n m g, (st.blk n).isSome = true → (st.blk m).isSome = true → blkOf ν n = some g → blkOf ν m = some g → n = m
  news : ∀ n, st.usd n = false → ν n = none
  own : ∀ n g, (st.blk n).isSome = true → blkOf ν n = some g → C.w.heap.size ≤ g ∨ C.F g
  fr : Frm C G w
  kpt : ∀ n x, C.K n = some x → ν n = some x
end Go.Proofs.YtldnkeackphilaaGreatDoor.X
