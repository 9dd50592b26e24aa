/- The linear calculus: what is asked, as it is worked out. -/
import Derived.Test.YtldnkeackphilaaGreatDoorNd8
set_option linter.unusedSimpArgs false
set_option linter.unusedVariables false
namespace Go.Proofs.YtldnkeackphilaaGreatDoor.X
open Go.RowKit
universe u
inductive Tag {α : Sort u} (x : α) : Type
  | mk
def onO {α : Type} (o : Option α) (f : α → Prop) : Prop := match o with
  | some a => f a
  | none => False
theorem onO_ex {α : Type} {o : Option α} {f : α → Prop} (h : onO o f) : ∃ a, o = some a ∧ f a := by
  cases o with
  | none => exact h.elim
  | some a => exact ⟨a, rfl, h⟩
def onB (a : AV) (f : Bool → Prop) : Prop := match a with
  | .imm (.bool b) => f b
  | _ => False
def rch (blk : Nat → Option Blk) (l : List Nat) : List Nat := reach 40 blk [] l
def getL (st : St) : List Operand → List AV
  | [] => []
  | x :: l => st.get x :: getL st l
def okL (st : St) (y : Bool) : List Operand → Prop
  | [] => True
  | x :: l => st.ok y x ∧ okL st y l
def sndL : List (Nat × Operand) → List Operand
  | [] => []
  | p :: l => p.2 :: sndL l
def frzM (blk : Nat → Option Blk) (ns : List Nat) : List AV → List AV
  | [] => []
  | a :: l => frzF blk ns a :: frzM blk ns l
def prV (blk : Nat → Option Blk) (ns : List Nat) : List AV → List (List AV)
  | [] => []
  | a :: l => (fixA (frzF blk ns a)).cells :: prV blk ns l
def prC (blk : Nat → Option Blk) (ns : List Nat) (sz : Nat) : List AV → Prop
  | [] => True
  | a :: l => (a.whole = true ∧ pureA (frzF blk ns a) = true ∧ (fixA (frzF blk ns a)).cells.length = sz) ∧ prC blk ns sz l
def stoY (P : Program) (st : St) (i j n : Nat) (E : TypeId) (es : List (List AV)) (v : AV) (ns : List Nat) (R : Eff → Prop) : Prop :=
  i < es.length ∧ j + v.cells.length ≤ szP P E ∧ frzOk st.blk ns ∧ ns.contains n = false ∧ pureA (frzF st.blk ns v) = true ∧ R ⟨none, .dead, (n, some (.row E (es.set i (spliceL (es.getD i []) j (fixA (frzF st.blk ns v)).cells)))) :: dropE ns, []⟩
def stoF (P : Program) (st : St) (i j n : Nat) (v : AV) (R : Eff → Prop) : Option Blk → Prop
  | some (.row E es) => stoY P st i j n E es v (rch st.blk (refsA v)) R
  | _ => False
def stoX (P : Program) (st : St) (v : AV) (R : Eff → Prop) : AV → Prop
  | .ref n off => stoB off n v.cells R (st.blk n)
  | .elt n i j => stoF P st i j n v R (st.blk n)
  | _ => False
def rowX (P : Program) (st : St) (d n : Nat) (E : TypeId) (l : List AV) (ix : List Nat) (ns : List Nat) (R : Eff → Prop) : Prop :=
  frzOk st.blk ns ∧ prC st.blk ns (szP P E) l ∧ n * szP P E ≤ 16777216 ∧ n ≤ 16777216 ∧ zokP P E = true ∧ ix = List.range n ∧ R ⟨some d, .rw d 0 n, (d, some (.row E (prV st.blk ns l))) :: dropE ns, [d]⟩
def callT (P : Program) (st : St) (d : Nat) (f : FuncId) (as as1 : List AV) (ns : List Nat) (ok : Prop) (R : Eff → Prop) (_ : Tag R) : Prop :=
  (ok ∧ ∃ a rt, Has P f as1 a rt ∧ a.shared = true ∧ R ⟨some d, a, dropE ns, []⟩) ∨ ∃ e, CallH P st d f as e ∧ R e
def callX (P : Program) (st : St) (d : Nat) (f : FuncId) (as : List AV) (R : Eff → Prop) : Prop :=
  callT P st d f as (fixL (frzM st.blk (rch st.blk (refsL as)) as)) (rch st.blk (refsL as)) (frzOk st.blk (rch st.blk (refsL as)) ∧ pureL (frzM st.blk (rch st.blk (refsL as)) as) = true) R .mk
def dynX (P : Program) (st : St) (d : Nat) (as : List AV) (R : Eff → Prop) : Option (FuncId × List AV) → Prop
  | some p => callX P st d p.1 (as ++ p.2) R
  | none => False
def stepX (P : Program) (N : Nat) (dst : Option Nat) (op : Op) (R : Eff → Prop) (st : St) : Prop :=
  match op with
  | .alloc T => onD dst fun d => d < N ∧ st.usd d = false ∧ onO (zbx P T) fun cs => R ⟨some d, .ref d 0, [(d, some (.box T cs))], [d]⟩
  | .box T x => onD dst fun d => d < N ∧ st.usd d = false ∧ st.ok true x ∧ (st.get x).whole = true ∧ R ⟨some d, .ref d 0, [(d, some (.box T (st.get x).cells))], [d]⟩
  | .store T addr x => dst = none ∧ st.ok true addr ∧ st.ok true x ∧ (st.get x).whole = true ∧ infP P T = true ∧ (st.get x).cells.length = szP P T ∧ stoX P st (st.get x) R (st.get addr)
  | .call { callee := .builtin .append, args := xs, argTypes := ats } => match xs.toList, ats.toList with
    | [s, x], [T, T'] => T = T' ∧ onD dst fun d => d < N ∧ st.usd d = false ∧ st.ok true s ∧ st.ok true x ∧ onO (elemP P T) fun E => onO (appS st E (st.get s)) fun p => onO (appX st (st.get x)) fun es2 => appC P E p.1 es2 ∧ R (appE E d p.1 es2 p.2)
    | _, _ => False
  | .call { callee := .value (.func f), args := xs, argTypes := _ } => onD dst fun d => d < N ∧ okL st true xs.toList ∧ callX P st d f (getL st xs.toList) R
  | .call { callee := .value (.tmp t), args := xs, argTypes := _ } => onD dst fun d => d < N ∧ okL st true xs.toList ∧ dynX P st d (getL st xs.toList) R (slotF (st.val t))
  | .buildSlice T n parts => onD dst fun d => d < N ∧ st.usd d = false ∧ okL st true (sndL parts.toList) ∧ onO (elemP P T) fun E => rowX P st d n E (getL st (sndL parts.toList)) (parts.toList.map (·.1)) (rch st.blk (refsL (getL st (sndL parts.toList)))) R
  | .makeSlice T x y => onD dst fun d => d < N ∧ st.usd d = false ∧ st.ok true x ∧ st.ok true y ∧ onO (elemP P T) fun E => onO (zonP P E) fun z => szP P E = 1 ∧ bytesP P E ≤ 16 ∧ onO (mkN (st.get x)) fun k => mkN (st.get y) = some k ∧ R (makE E d k z)
  | op => onD dst fun d => d < N ∧ evc P st true op ∧ R ⟨some d, ev P st op, [], []⟩
def callGT (P : Program) (d : Nat) (y : Bool) (f : FuncId) (as1 : List AV) (ok : Prop) (R : Eff → Prop) (_ : Tag R) : Prop := ok ∧ ∃ a rt, (y = true → Has P f as1 a rt) ∧ a.shared = true ∧ R ⟨some d, .cnd y a, [], []⟩
def opX (P : Program) (N : Nat) (ds : List (Option Nat)) (o : Oper) (R : Eff → Prop) (st : St) : Prop := match o.guard with
  | none => stepX P N o.dst o.op R st
  | some (j, want) => onO (yA ds st j want) fun y => onD o.dst fun d => d < N ∧ match isGoCall o.op with
    | some (f, xs) => okL st y xs ∧ callGT P d y f (fixL (getL st xs)) (pureL (getL st xs) = true) R .mk
    | none => evc P st y o.op ∧ R ⟨some d, .cnd y (ev P st o.op), [], []⟩
theorem getL_eq (st : St) : ∀ l : List Operand, getL st l = l.map st.get
  | [] => rfl
  | x :: l => by rw [getL, getL_eq st l]; rfl
theorem okL_spec {st : St} {y : Bool} : ∀ {l : List Operand}, okL st y l → ∀ x ∈ l, st.ok y x
  | [], _, x, hx => by cases hx
  | z :: l, h, x, hx => (List.mem_cons.1 hx).elim (fun e => e ▸ h.1) (okL_spec h.2 x)
theorem sndL_eq : ∀ l : List (Nat × Operand), sndL l = l.map (·.2)
  | [] => rfl
  | p :: l => by rw [sndL, sndL_eq l]; rfl
theorem frzM_eq (blk : Nat → Option Blk) (ns : List Nat) : ∀ l : List AV, frzM blk ns l = l.map (frzF blk ns)
  | [] => rfl
  | x :: l => by rw [frzM, frzM_eq blk ns l]; rfl
theorem prV_eq (blk : Nat → Option Blk) (ns : List Nat) : ∀ l : List AV, prV blk ns l = l.map fun a => (fixA (frzF blk ns a)).cells
  | [] => rfl
  | x :: l => by rw [prV, prV_eq blk ns l]; rfl
theorem prC_spec {blk : Nat → Option Blk} {ns : List Nat} {sz : Nat} : ∀ {l : List AV}, prC blk ns sz l → ∀ a ∈ l, a.whole = true ∧ pureA (frzF blk ns a) = true ∧ (fixA (frzF blk ns a)).cells.length = sz
  | [], _, x, hx => by cases hx
  | z :: l, h, x, hx => (List.mem_cons.1 hx).elim (fun e => e ▸ h.1) (prC_spec h.2 x)
theorem callX_E {P : Program} {st : St} {d : Nat} {f : FuncId} {as : List AV} {R : Eff → Prop} (h : callX P st d f as R) : ∃ e, CallE P st d f as e ∧ R e := by
  rcases h with ⟨⟨h1, h2⟩, a, rt, h3, h4, h5⟩ | ⟨e, h1, h2⟩
  · rw [frzM_eq] at h2 h3
    exact ⟨_, .inl ⟨_, a, rt, h1, h2, h3, h4, rfl⟩, h5⟩
  · exact ⟨e, .inr h1, h2⟩
theorem stoX_K {P : Program} {st : St} {v : AV} {R : Eff → Prop} {a : AV} (h : stoX P st v R a) : stoK P st v R a := by
  cases a with
  | ref n off => exact h
  | elt n i j =>
    simp only [stoX] at h
    simp only [stoK]
    cases hb : st.blk n with
    | none => rw [hb] at h; exact h.elim
    | some B =>
      rw [hb] at h
      cases B with
      | box => exact h.elim
      | row E es =>
        obtain ⟨k1, k2, k3, k4, k5, k6⟩ := h
        exact ⟨k1, k2, _, k3, by simpa using k4, k5, k6⟩
  | _ => exact h.elim
theorem stepX_V {P : Program} {N : Nat} {dst : Option Nat} {op : Op} {R : Eff → Prop} {st : St} (h : stepX P N dst op R st) : stepV P N dst op R st := by
  unfold stepX at h
  split at h
  · obtain ⟨d, rfl, h1, h2, h3⟩ := onD_some h
    obtain ⟨cs, h3, h4⟩ := onO_ex h3
    exact ⟨h1, h2, cs, h3, h4⟩
  · exact h
  · obtain ⟨h0, h1, h2, h3, h4, h5, h6⟩ := h
    exact ⟨h0, h1, h2, h3, h4, h5, stoX_K h6⟩
  · split at h
    · next e1 e2 =>
      obtain ⟨h0, h⟩ := h
      obtain ⟨d, rfl, h1, h2, h3, h4, h5⟩ := onD_some h
      obtain ⟨E, h5, h6⟩ := onO_ex h5
      obtain ⟨⟨es, ns⟩, h6, h7⟩ := onO_ex h6
      obtain ⟨es2, h7, h8, h9⟩ := onO_ex h7
      simp only [stepV, e1, e2, onD]
      exact ⟨h0, h1, h2, h3, h4, E, es, ns, es2, h5, h6, h7, h8, h9⟩
    · exact h.elim
  · obtain ⟨d, rfl, h1, h2, h3⟩ := onD_some h
    rw [getL_eq] at h3
    obtain ⟨e, h3, h4⟩ := callX_E h3
    exact ⟨h1, okL_spec h2, e, h3, h4⟩
  · obtain ⟨d, rfl, h1, h2, h3⟩ := onD_some h
    unfold dynX at h3
    split at h3
    · next p hp =>
      rw [getL_eq] at h3
      obtain ⟨e, h3, h4⟩ := callX_E h3
      exact ⟨h1, okL_spec h2, p.1, p.2, hp, e, h3, h4⟩
    · exact h3.elim
  · next T n parts =>
    obtain ⟨d, rfl, h1, h2, h3, h4⟩ := onD_some h
    obtain ⟨E, h4, h5, h6, h7, h8, h9, h10, h11⟩ := onO_ex h4
    refine ⟨h1, h2, E, _, h4, h5, fun p hp => ?_, h7, h8, h9, h10, ?_⟩
    · have hm : p.2 ∈ sndL parts.toList := by rw [sndL_eq]; exact List.mem_map_of_mem hp
      have := prC_spec h6 (st.get p.2) (by rw [getL_eq]; exact List.mem_map_of_mem hm)
      exact ⟨okL_spec h3 _ hm, this⟩
    · rw [prV_eq] at h11
      simp only [rowE]
      have e : ∀ (f : AV → List AV) (l : List (Nat × Operand)), (getL st (sndL l)).map f = l.map fun p => f (st.get p.2) := fun f l => by rw [getL_eq, sndL_eq, List.map_map, List.map_map]; rfl
      rw [e] at h11
      exact h11
  · obtain ⟨d, rfl, h1, h2, h3, h4, h5⟩ := onD_some h
    obtain ⟨E, h5, h6⟩ := onO_ex h5
    obtain ⟨z, h6, h7, h8, h9⟩ := onO_ex h6
    obtain ⟨k, h9, h10, h11⟩ := onO_ex h9
    exact ⟨h1, h2, h3, h4, E, k, z, h5, h6, h7, h8, h9, h10, h11⟩
  · unfold stepV
    split <;> first | (exfalso; simp_all; done) | exact h
theorem opX_V {P : Program} {N : Nat} {ds : List (Option Nat)} {o : Oper} {R : Eff → Prop} {st : St} (h : opX P N ds o R st) : opV P N ds o R st := by
  unfold opX at h
  split at h
  · next e0 =>
    simp only [opV, e0]
    exact stepX_V h
  · next j want e0 =>
    obtain ⟨y, hy, h⟩ := onO_ex h
    obtain ⟨d, hd, h1, h⟩ := onD_some h
    simp only [opV, e0, hd, onD]
    refine ⟨y, hy, h1, ?_⟩
    split at h
    · next f xs e1 =>
      obtain ⟨h2, h3, a, rt, h4, h5, h6⟩ := h
      rw [getL_eq] at h3 h4
      simp only [e1]
      exact ⟨okL_spec h2, h3, a, rt, h4, h5, h6⟩
    · next e1 =>
      simp only [e1]
      exact h
def opKX (P : Program) (N : Nat) (ds : List (Option Nat)) (o : Oper) (R : Eff → Prop) (st : St) : Prop := match o.guard with
  | none => False
  | some (j, want) => onO (yA ds st j want) fun y => (y = true → stepX P N o.dst o.op R st) ∧ (y = false → (∀ d, o.dst = some d → d < N) ∧ R ⟨o.dst, .dead, [], []⟩)
theorem opKX_K {P : Program} {N : Nat} {ds : List (Option Nat)} {o : Oper} {R : Eff → Prop} {st : St} (h : opKX P N ds o R st) : opK P N ds o R st := by
  unfold opKX at h
  unfold opK
  split at h
  · exact h.elim
  · next j want hg =>
    cases hy : yA ds st j want with
    | none => rw [hy] at h; exact h.elim
    | some y =>
      rw [hy] at h
      rw [hg]
      exact ⟨y, hy, fun e => stepX_V (h.1 e), h.2⟩
def grdK (o : Oper) : Nat := match o.guard with
  | none => 0
  | some _ => match o.op with
    | .alloc _ => 1
    | .box _ _ => 1
    | .store _ _ _ => 1
    | .buildSlice _ _ _ => 1
    | .call { callee := .builtin .append, args := _, argTypes := _ } => 1
    | .call { callee := .value _, args := _, argTypes := _ } => 2
    | _ => 0
def wRX (P : Program) (N : Nat) (ds : List (Option Nat)) : List Oper → (St → Prop) → St → Prop
  | [], Q, st => Q st
  | o :: rest, Q, st => match grdK o with
    | 1 => opKX P N ds o (fun e => wRX P N ds rest Q (st.app e)) st
    | 2 => opX P N ds o (fun e => wRX P N ds rest Q (st.app e)) st ∨ opKX P N ds o (fun e => wRX P N ds rest Q (st.app e)) st
    | _ => opX P N ds o (fun e => wRX P N ds rest Q (st.app e)) st
def rdL (rts : List (Nat × List Nat)) (st : St) : List Operand → Prop
  | [] => True
  | .tmp t :: l => subset (refsA (st.val t)) (rootsOf rts t) = true ∧ rdL rts st l
  | _ :: l => rdL rts st l
def rdG (rts : List (Nat × List Nat)) (st : St) : Option Nat → Prop
  | some t => subset (refsA (st.val t)) (rootsOf rts t) = true
  | none => True
def fstL : List (Nat × Option Blk) → List Nat
  | [] => []
  | p :: l => p.1 :: fstL l
def effB (W : List Nat) (dst : Option Nat) (e : Eff) : Prop := e.dst = dst ∧ subset (fstL e.bs) W = true ∧ subset e.us W = true
def wDX (P : Program) (N : Nat) (rts : List (Nat × List Nat)) (ds : List (Option Nat)) : List Oper → (St → Prop) → St → Prop
  | [], Q, st => Q st
  | o :: rest, Q, st => rdL rts st o.op.operands.toList ∧ rdG rts st (match o.guard with | some (j, _) => ds.getD j none | none => none) ∧ opX P N ds o (fun e => effB (wrN rts ds o) o.dst e ∧ wDX P N rts ds rest Q (st.app e)) st
theorem wRX_R {P : Program} {N : Nat} {ds : List (Option Nat)} {Q : St → Prop} : ∀ (l : List Oper) {st : St}, wRX P N ds l Q st → wR P N ds l Q st
  | [], _, h => h
  | o :: l, st, h => by
    simp only [wRX] at h
    split at h
    · refine .inr (opK_mono (opKX_K h) fun e he => wRX_R l he)
    · rcases h with h | h
      · exact .inl (opV_mono (opX_V h) fun e he => wRX_R l he)
      · exact .inr (opK_mono (opKX_K h) fun e he => wRX_R l he)
    · exact .inl (opV_mono (opX_V h) fun e he => wRX_R l he)
theorem rdL_spec {rts : List (Nat × List Nat)} {st : St} : ∀ {l : List Operand}, rdL rts st l → ∀ t ∈ l.flatMap opT, ∀ n ∈ refsA (st.val t), n ∈ rootsOf rts t
  | [], _, t, ht => by simp at ht
  | .tmp u :: l, h, t, ht => by
    simp only [List.flatMap_cons, opT, List.mem_append, List.mem_singleton] at ht
    rcases ht with rfl | ht
    · exact fun n hn => subset_mem h.1 hn
    · exact rdL_spec h.2 t ht
  | .const _ :: l, h, t, ht => rdL_spec (l := l) h t (by simpa [opT] using ht)
  | .global _ :: l, h, t, ht => rdL_spec (l := l) h t (by simpa [opT] using ht)
  | .func _ :: l, h, t, ht => rdL_spec (l := l) h t (by simpa [opT] using ht)
theorem fstL_eq : ∀ l : List (Nat × Option Blk), fstL l = l.map (·.1)
  | [] => rfl
  | p :: l => by rw [fstL, fstL_eq l]; rfl
theorem wDX_D {P : Program} {N : Nat} {rts : List (Nat × List Nat)} {ds : List (Option Nat)} {Q : St → Prop} : ∀ (l : List Oper) {st : St}, wDX P N rts ds l Q st → wD P N rts ds l Q st
  | [], _, h => h
  | o :: l, st, h => by
    obtain ⟨h1, h2, h3⟩ := h
    refine ⟨fun t ht => ?_, opV_mono (opX_V h3) fun e he => ⟨?_, wDX_D l he.2⟩⟩
    · rcases List.mem_append.1 ht with ht | ht
      · exact rdL_spec h1 t ht
      · unfold guardS at ht
        split at ht
        · next j want hg =>
          rw [hg] at h2
          simp only at h2
          cases hd : ds.getD j none with
          | none => rw [hd] at ht; simp at ht
          | some u =>
            rw [hd] at ht h2
            simp at ht
            subst ht
            exact fun n hn => subset_mem h2 hn
        · cases ht
    · obtain ⟨k1, k2, k3⟩ := he.1
      rw [fstL_eq] at k2
      exact ⟨k1, fun p hp => subset_mem k2 (List.mem_map_of_mem hp), fun n hn => subset_mem k3 hn⟩
def wX (P : Program) (N : Nat) (h : Hint) : Code → (Exit → St → Prop) → St → Prop
  | .skip, Q, st => Q .normal st
  | .region id ops false, Q, st => wRX P N (ops.toList.map (·.dst)) ops.toList (fun s => Q .normal (lit h.nv h.nb s)) (st.opnL (rootsOf h.fz id))
  | .region id ops true, Q, st => wDX P N h.rts (ops.toList.map (·.dst)) ops.toList (fun s => Q .normal (lit h.nv h.nb s)) (st.opnL (rootsOf h.fz id))
  | .seq x y, Q, st => wX P N h x (seqK (fun _ => wX P N h y) y Q) st
  | .cond c x y, Q, st => st.ok true c ∧ onB (st.get c) fun b => (b = true → wX P N h x Q st) ∧ (b = false → wX P N h y Q st)
  | .block id x, Q, st => wX P N h x (blkK id Q) st
  | .loop x, Q, st => ∃ (ow : List Own) (sg : List Sg) (kp : List Nat) (α : Type) (S : α → St) (I : α → Prop) (m : α → Nat), (edgeOk h.K ow sg st = true ∧ ∃ a, edge ow sg kp st = S a ∧ I a) ∧ ∀ a, I a → wX P N h x (loopK h.K ow sg kp S I m (m a) Q) (S a)
  | .exit id, Q, st => Q (.exit id) st
  | .ret, Q, st => Q .ret st
  | _, _, _ => False
theorem wX_F {P : Program} {N : Nat} {hi : Hint} : ∀ (c : Code) {Q Q' : Exit → St → Prop} {st : St}, wX P N hi c Q st → (∀ e s, Q e s → Q' e s) → wF P N hi c Q' st := by
  intro c
  induction c with
  | skip => exact fun h hq => hq _ _ h
  | region id ops draw =>
    intro Q Q' st h hq
    cases draw with
    | false => exact wR_mono (fun s => hq _ _) _ (wRX_R _ h)
    | true => exact wD_mono (fun s => hq _ _) _ (wDX_D _ h)
  | seq x y ihx ihy => exact fun h hq => ihx h fun e s he => by cases e <;> first | exact ihy he hq | exact hq _ _ he
  | cond c x y ihx ihy =>
    intro Q Q' st h hq
    obtain ⟨h1, h⟩ := h
    unfold onB at h
    split at h
    · next b e => exact ⟨h1, b, e, fun k => ihx (h.1 k) hq, fun k => ihy (h.2 k) hq⟩
    · exact h.elim
  | block id x ih =>
    exact fun h hq => ih h fun e s he => by
      cases e with
      | exit id' =>
        simp only [blkK] at he ⊢
        by_cases e : id' = id
        · rw [if_pos e] at he ⊢
          exact hq _ _ he
        · rw [if_neg e] at he ⊢
          exact hq _ _ he
      | _ => exact hq _ _ he
  | loop x ih =>
    exact fun ⟨ow, sg, kp, α, S, I, m, h0, hr⟩ hq => ⟨ow, sg, kp, α, S, I, m, h0, fun a ha => ih (hr a ha) fun e s' he => by cases e <;> first | exact he | exact hq _ _ he⟩
  | exit id => exact fun h hq => hq _ _ h
  | ret => exact fun h hq => hq _ _ h
  | _ => exact fun h _ => h.elim
def endY (P : Program) (s : St) (a : AV) (as : List AV) (ns : List Nat) : Prop := frzOk s.blk ns ∧ pureL (frzM s.blk ns as) = true ∧ packA (fixL (frzM s.blk ns as)) = a
def endPX (P : Program) (s : St) (a : AV) (rs : List ResultVar) : Prop := resCL P s rs ∧ endY P s a (resAL P s rs) (rch s.blk (refsL (resAL P s rs)))
def endX (P : Program) (rs : List ResultVar) (a : AV) (e : Exit) (s : St) : Prop := match e with
  | .normal => endPX P s a rs
  | .ret => endPX P s a rs
  | _ => False
theorem endX_S {P : Program} {rs : List ResultVar} {a : AV} {e : Exit} {s : St} (h : endX P rs a e s) : endS P rs a e s := by
  have key : endPX P s a rs → endP P s a rs := fun ⟨h1, h2, h3, h4⟩ => by
    rw [frzM_eq] at h3 h4
    exact ⟨h1, _, h2, h3, h4⟩
  cases e <;> first | exact key h | exact h
def wRt (P : Program) (N : Nat) (ds : List (Option Nat)) (l : List Oper) (Q : St → Prop) (_ : Tag (ds, l, Q)) (st : St) : Prop := wRX P N ds l Q st
def wDt (P : Program) (N : Nat) (rts : List (Nat × List Nat)) (ds : List (Option Nat)) (l : List Oper) (Q : St → Prop) (_ : Tag (ds, l, Q)) (st : St) : Prop := wDX P N rts ds l Q st
def wFt (P : Program) (N : Nat) (h : Hint) (c : Code) (Q : Exit → St → Prop) (_ : Tag (c, Q)) (st : St) : Prop := wX P N h c Q st
theorem fnX {P : Program} {f : FuncId} {fn : Func} {c : Code} {args : List AV} {a : AV} (hmx : P.follows .mixedOrders = true) (hi : Hint) (hf : P.funcs[f]? = some fn) (hb : fn.body = some c) (hn : (fn.name == "runtime.NumGoroutine") = false) (hN : Nat.ble args.length fn.ntmps = true) (hd : drawsAll hi.rts c = true) (ha : a.final = true)
    (h : wFt P fn.ntmps hi c (endX P fn.results.toList a) .mk (St.args args [])) : Has P f args a noTok :=
  has_of hmx hi hf hb hn hN hd ha (wX_F c h fun e s h => endX_S h)
theorem hsX {P : Program} {f : FuncId} {fn : Func} {c : Code} {args : List AV} {a : AV} {H H' : List (Nat × Blk)} (hmx : P.follows .mixedOrders = true) (hi : Hint) (fr : List Nat) (ow : List Own) (sg : List Sg) (hf : P.funcs[f]? = some fn) (hb : fn.body = some c) (hn : (fn.name == "runtime.NumGoroutine") = false) (hN : Nat.ble args.length fn.ntmps = true) (hd : drawsAll hi.rts c = true) (hKH : subset hi.K (H.map (·.1)) = true)
    (h : wFt P fn.ntmps hi c (endH P fr ow sg hi.K fn.results.toList a H') .mk (St.args args H)) : Hs P f args H a hi.K H' :=
  hs_of hmx hi fr ow sg hf hb hn hN hd hKH (wX_F c h fun e s h => h)
end Go.Proofs.YtldnkeackphilaaGreatDoor.X
