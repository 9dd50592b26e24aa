/- The calculus of values: each operation, its rights. -/
import Derived.Test.YtldnkeackphilaaGreatDoorNs3
set_option linter.unusedSimpArgs false
set_option linter.unusedVariables false
namespace Go.Proofs.YtldnkeackphilaaGreatDoor
open Go.RowKit

def zeroP (P : Program) (T : TypeId) : Option Value := (P.info? T).bind (·.zero)
def bytesP (P : Program) (T : TypeId) : Nat := ((P.info? T).map (·.bytes)).getD 0
def elemP (P : Program) (T : TypeId) : Option TypeId := match P.underlying T with
  | some (.slice e) => some e
  | _ => none
def isNilS : Value → Bool
  | .slice none 0 0 => true
  | _ => false
def tkO (st : St) : Operand → Nat → Option (Option TypeId)
  | .tmp t, k => st.tok t k
  | .const (.slice none 0 0), 0 => some none
  | .const (.agg vs), k + 1 => if (vs[k]?).any isNilS then some none else none
  | _, _ => none
def tkC (a : AV) (tk : Nat → Option (Option TypeId)) : Nat → Option (Option TypeId) := fun j => match a with
  | .agg cs => if j < cs.length then tk (j + 1) else none
  | _ => if j = 0 then tk 0 else none
def rhoO (x : Operand) (f : Nat → Option Nat) : Nat → Nat → Option Nat := fun t k => match x with
  | .tmp t' => if t = t' then f k else none
  | _ => none
def celF (a : AV) (base : Nat) : Nat → Option Nat := fun k => match a with
  | .agg cs => if 1 ≤ k ∧ k ≤ cs.length then some (base + k) else none
  | _ => if k = 0 then some (base + 1) else none
def nilTk (vs : Array Value) : Nat → Option (Option TypeId)
  | 0 => none
  | k + 1 => if (vs[k]?).any isNilS then some none else none
def tokL (st : St) (x : Operand) : List (Option (Option TypeId)) := match st.get x with
  | .sl _ => [tkO st x 0]
  | .agg cs => none :: (List.range cs.length).map fun j => tkO st x (j + 1)
  | _ => []
def celL (st : St) (x : Operand) : List (Option (Option TypeId)) := match st.get x with
  | .agg cs => (List.range cs.length).map fun j => tkO st x (j + 1)
  | .sl _ => [tkO st x 0]
  | _ => []
def lk (l : List (Option (Option TypeId))) : Nat → Option (Option TypeId) := fun k => l.getD k none
theorem tokL_sub {st : St} {x : Operand} {k : Nat} {E : Option TypeId} (h : lk (tokL st x) k = some E) : tkO st x k = some E := by
  unfold lk tokL at h
  split at h
  · cases k with
    | zero => simpa using h
    | succ k => simp at h
  · next cs _ =>
    cases k with
    | zero => simp at h
    | succ k =>
      by_cases hk : k < cs.length
      · simpa [hk] using h
      · simp [hk] at h
  · simp at h
theorem celL_sub {st : St} {x : Operand} {k : Nat} {E : Option TypeId} (h : lk (celL st x) k = some E) : tkC (st.get x) (tkO st x) k = some E := by
  unfold lk celL at h
  unfold tkC
  split at h
  · next cs e =>
    rw [e]
    by_cases hk : k < cs.length
    · simpa [hk] using h
    · simp [hk] at h
  · next es e =>
    rw [e]
    cases k with
    | zero => simpa using h
    | succ k => simp at h
  · simp at h
def trR (P : Program) (st : St) (L : List Nat) (d : Nat) : Op → (Nat → Nat → Option Nat)
  | .assign x => if (st.get x).shared then rhoO x some else fun _ _ => none
  | .move x => if L.contains d && (st.get x).shared then rhoO x some else fun _ _ => none
  | .load T x => match st.get x with
    | .ref r off => if L.contains d then (if isRowT P T then (fun t k => if t = r ∧ off + 1 ≤ k ∧ k ≤ off + szP P T then some (k - off) else none) else (fun t k => if t = r ∧ k = off + 1 then some 0 else none)) else fun _ _ => none
    | _ => fun _ _ => none
  | _ => fun _ _ => none
def trT (P : Program) (st : St) (L : List Nat) (d : Nat) : Op → (Nat → Option (Option TypeId))
  | .assign x => if (st.get x).shared then lk (tokL st x) else noTok
  | .move x => if L.contains d && (st.get x).shared then lk (tokL st x) else noTok
  | .load T x => match st.get x with
    | .ref r off => if L.contains d then (if isRowT P T then lk (none :: (List.range (szP P T)).map fun j => st.tok r (off + j + 1)) else lk [st.tok r (off + 1)]) else noTok
    | _ => noTok
  | _ => noTok
def AV.rootNe (d : Nat) : AV → Bool
  | .ref r _ => r != d
  | _ => true
inductive Eff where
  | put (src : Nat → Nat → Bool) (d : Nat) (a : AV) (tk : Nat → Option (Option TypeId))
  | sto (src : Nat → Nat → Bool) (r off : Nat) (T : TypeId) (cs as : List AV) (tk : Nat → Option (Option TypeId))
def St.app (st : St) : Eff → St
  | .put src d a tk => st.put src d a tk
  | .sto src r off T cs as tk => st.sto src r off T cs as tk
def readV (P : Program) (N : Nat) (L : List Nat) (dst : Option Nat) (op : Op) (R : Eff → Prop) (st : St) : Prop := match dst with
  | some d => d < N ∧ evc P st true op ∧ (ev P st op).rootNe d = true ∧ (match op with | .assign (.tmp t) => t ≠ d | .move (.tmp t) => t ≠ d | _ => True) ∧ R (.put (fun t k => (trR P st L d op t k).isSome) d (ev P st op) (trT P st L d op))
  | none => False
def stepV (P : Program) (N : Nat) (L : List Nat) (dst : Option Nat) (op : Op) (R : Eff → Prop) (st : St) : Prop :=
  match op with
  | .alloc T => match dst, zeroP P T with
    | some d, some z => d < N ∧ z.cells.all (·.oneCell') = true ∧ R (.put noSrc d (.box T (z.cells.toList.map constCell)) (nilTk z.cells))
    | _, _ => False
  | .box T x => match dst with
    | some d => d < N ∧ st.ok true x ∧ (st.get x).shared = true ∧ (st.get x).whole = true ∧ (∀ t, x = .tmp t → t ≠ d) ∧
        R (.put (fun t k => (rhoO x (celF (st.get x) 0) t k).isSome) d (.box T (st.get x).cells) (lk (none :: celL st x)))
    | none => False
  | .store T addr x => st.ok true addr ∧ st.ok true x ∧ (st.get x).shared = true ∧ (st.get x).whole = true ∧ match st.get addr with
    | .ref r off => match st.val r with
      | .box T' cs => (st.get x).cells.length = szP P T ∧ (P.info? T).isSome = true ∧ off + (st.get x).cells.length ≤ cs.length ∧ (∀ t, x = .tmp t → t ≠ r) ∧ dst = none ∧
          R (.sto (fun t k => (rhoO x (celF (st.get x) off) t k).isSome) r off T' cs (st.get x).cells (lk (celL st x)))
      | _ => False
    | _ => False
  | .call { callee := .builtin .append, args := xs, argTypes := ats } => match xs.toList, ats.toList, dst with
    | [.tmp ts, x], [T, T'], some d => T = T' ∧ d < N ∧ st.ok true x ∧ match elemP P T, st.val ts, st.get x with
      | some E, .sl es, .sl es2 => (∃ E0, st.tok ts 0 = some E0 ∧ (E0 = none ∨ E0 = some E)) ∧ (∀ e ∈ es, e.length = szP P E) ∧ (∀ e ∈ es2, e.length = szP P E) ∧
          (es.length + es2.length) * bytesP P E ≤ 140737488355328 ∧ es.length + es2.length ≤ 9223372036854775807 ∧ 0 < szP P E ∧ (∃ z, zeroP P E = some z ∧ z.cells.size = szP P E) ∧
          R (.put (fun t k => t == ts && k == 0) d (.sl (es ++ es2)) (fun k => if k = 0 then some (some E) else none))
      | _, _, _ => False
    | _, _, _ => False
  | .call { callee := .value (.func f), args := xs, argTypes := _ } => match dst with
    | some d => d < N ∧ (∀ x ∈ xs.toList, st.ok true x) ∧ (∀ x ∈ xs.toList, (st.get x).shared = true) ∧ (∃ a rt, Has P f (xs.toList.map st.get) a rt ∧ R (.put noSrc d a rt))
    | none => False
  | .buildSlice T n parts => match dst, elemP P T with
    | some d, some E => d < N ∧ (∀ p ∈ parts.toList, st.ok true p.2 ∧ (st.get p.2).shared = true ∧ (st.get p.2).whole = true ∧ (st.get p.2).cells.length = szP P E) ∧ n * szP P E ≤ 16777216 ∧ n ≤ 16777216 ∧
        (∃ z, zeroP P E = some z ∧ z.cells.size = szP P E ∧ z.cells.all (·.oneCell') = true) ∧ parts.toList.map (·.1) = List.range n ∧
        R (.put noSrc d (.sl (parts.toList.map fun p => (st.get p.2).cells)) (fun k => if k = 0 then some (some E) else none))
    | _, _ => False
  | op => readV P N L dst op R st
def stepW (P : Program) (N : Nat) (L : List Nat) (dst : Option Nat) (op : Op) (Q : St → Prop) (st : St) : Prop := stepV P N L dst op (fun e => Q (st.app e)) st
def yA (ds : List (Option Nat)) (st : St) (j : Nat) (want : Bool) : Option Bool := match ds.getD j none with
  | none => none
  | some t => match st.val t with
    | .imm (.bool b) => some (b == want)
    | .cnd y (.imm (.bool b)) => some (y && (b == want))
    | _ => none
def isGoCall : Op → Option (FuncId × List Operand)
  | .call { callee := .value (.func f), args := xs, argTypes := _ } => some (f, xs.toList)
  | _ => none
def opV (P : Program) (N : Nat) (L : List Nat) (ds : List (Option Nat)) (o : Oper) (R : Eff → Prop) (st : St) : Prop := match o.guard with
  | none => stepV P N L o.dst o.op R st
  | some (j, want) => match yA ds st j want, o.dst with
    | some y, some d => d < N ∧ match isGoCall o.op with
      | some (f, xs) => (∀ x ∈ xs, st.ok y x) ∧ (∀ x ∈ xs, (st.get x).shared = true) ∧ ∃ a rt, (y = true → Has P f (xs.map st.get) a rt) ∧ a.shared = true ∧ R (.put noSrc d (.cnd y a) noTok)
      | none => evc P st y o.op ∧ (ev P st o.op).rootNe d = true ∧ (ev P st o.op).plain = true ∧ R (.put noSrc d (.cnd y (ev P st o.op)) noTok)
    | _, _ => False
def frzT (st : St) (t : Nat) : St := match st.val t with
  | .box _ cs => st.put noSrc t (.ptr cs) noTok
  | _ => st
def frzX (st : St) : Operand → St
  | .tmp t => frzT st t
  | _ => st
def frzL (st : St) : List Operand → St
  | [] => st
  | x :: l => frzL (frzX st x) l
def givenL : Op → List Operand
  | .call { callee := .value (.func _), args := xs, argTypes := _ } => xs.toList
  | .call { callee := .builtin .append, args := xs, argTypes := _ } => xs.toList.drop 1
  | .buildSlice _ _ parts => parts.toList.map (·.2)
  | .build _ parts => parts.toList.map (·.2)
  | .store _ _ x => [x]
  | .box _ x => [x]
  | .makeInterface _ x => [x]
  | _ => []
def resO (st : St) (o : Oper) : Oper := match o.guard, o.op with
  | none, .call { callee := .value (.tmp t), args := xs, argTypes := ats } => match st.val t with
    | .imm (.func (.func f) fs cs) => if fs.size == 0 && cs.size == 0 then { o with op := .call { callee := .value (.func f), args := xs, argTypes := ats } } else o
    | _ => o
  | _, _ => o
def wR (P : Program) (N : Nat) (L : List Nat) (ds : List (Option Nat)) : List Oper → (St → Prop) → St → Prop
  | [], Q, st => Q st
  | o :: rest, Q, st => opV P N L ds (resO (frzL st (givenL o.op)) o) (fun e => wR P N L ds rest Q ((frzL st (givenL o.op)).app e)) (frzL st (givenL o.op))
end Go.Proofs.YtldnkeackphilaaGreatDoor
/- The calculus of values: each operation comes to its weakest precondition. -/
namespace Go.Proofs.YtldnkeackphilaaGreatDoor
open Go.RowKit

def Cont (P : Program) (N : Nat) (G : Gh) (O : Om) (w : World) (K : Act → World → Prop) (Q : St → Prop) : Prop := ∀ (a' : Act) w' G' O' st', a'.defers = [] → Rl P N G' O' w' a'.tmps st' → Fr G O w G' O' w' → Q st' → K a' w'
theorem wp_val {P : Program} {o : Oper} {a : Act} {w w' : World} {K : Act → World → Prop} {QQ : Exit → Act → World → Prop} {v : Value} (h : (execOp a.eval o).run P w = .ok (.value v) w') (hK : K (a.put o.dst v) w') : o.wp P a w K QQ := by
  unfold Oper.wp
  rw [h]
  exact hK
theorem wp_skip' {P : Program} {o : Oper} {a : Act} {w w' : World} {K : Act → World → Prop} {QQ : Exit → Act → World → Prop} (h : (execOp a.eval o).run P w = .ok .skip w') (hK : K (a.put o.dst undef) w') : o.wp P a w K QQ := by
  unfold Oper.wp
  rw [h]
  exact hK
theorem pv_put {w : World} {tm : Array Value} {d t : Nat} (hd : d < tm.size) (k : Nat) : pv w (tm.setIfInBounds d (tm.getD t undef)) d k = pv w tm t k := by
  cases k with
  | zero => exact getD_set_eq' hd _
  | succ k => simp only [pv]; rw [getD_set_eq' hd]
theorem tkO_const {st : St} {w : World} {tm : Array Value} {d : Nat} (hd : d < tm.size) {x : Value} {k : Nat} {E : Option TypeId} (h : tkO st (.const x) k = some E) : E = none ∧ pv w (tm.setIfInBounds d x) d k = .slice none 0 0 := by
  unfold tkO at h
  split at h
  · next e => cases e
  · next e =>
    cases e
    cases h
    exact ⟨rfl, getD_set_eq' hd _⟩
  · next vs j e =>
    cases e
    split at h
    · next hn =>
      cases h
      refine ⟨rfl, ?_⟩
      simp only [pv, getD_set_eq' hd]
      cases hv : vs[j]? with
      | none => rw [hv] at hn; cases hn
      | some u =>
        rw [hv] at hn
        have : u = .slice none 0 0 := by
          simp only [Option.any_some] at hn
          unfold isNilS at hn
          split at hn
          · rfl
          · cases hn
        subst this
        simp [hv]
    · cases h
  · cases h
theorem tkO_comp {P : Program} {N : Nat} {G : Gh} {O : Om} {w : World} {tm : Array Value} {st : St} (h : Rl P N G O w tm st) {x : Operand} (hs : (st.get x).shared = true) {k : Nat} {E : Option TypeId} (he : tkO st x (k + 1) = some E) : (st.get x).comp = true := by
  cases x with
  | tmp t =>
    have hc := h.comp t k E he
    simp only [St.get] at hs ⊢
    cases hA : st.val t <;> rw [hA] at hc hs <;> first | (simp only [AV.comp] at hc; cases hc; done) | rfl | (cases hs; done)
  | const v =>
    cases v with
    | agg vs => rfl
    | slice A n c => cases A <;> cases n <;> cases c <;> cases he
    | _ => cases he
  | global g => cases he
  | func f => cases he
theorem get_shared_box {st : St} {t : Nat} (hs : (st.get (.tmp t)).shared = true) {T cs} : st.val t ≠ .box T cs := by
  intro e
  simp only [St.get, e] at hs
  cases hs
theorem rx_put {G : Gh} {O : Om} {w : World} {tm : Array Value} {st : St} {src : Nat → Nat → Bool} {d : Nat} {v : Value} {a : AV} {tk : Nat → Option (Option TypeId)} (h : RX G tm st.val v a) (hr : a.rootNe d = true) : RV G O w (tm.setIfInBounds d v) (st.put src d a tk).val d v a := by
  rcases h with h | ⟨r, off, g, T, cs, rfl, rfl, h1, h2⟩
  · exact .sh h
  · have hne : r ≠ d := by simpa [AV.rootNe] using hr
    exact .ref r off g (by rw [getD_set_ne' hne]; exact h1) ⟨T, cs, by rw [St.put_val_ne _ _ _ _ hne, h2]; rfl⟩
theorem read_sound {P : Program} {N : Nat} {L : List Nat} {G : Gh} {O : Om} {w : World} {a : Act} {st : St} {o : Oper} {K : Act → World → Prop} {QQ : Exit → Act → World → Prop} {Q : St → Prop} {d : Nat} (hds : a.defers = []) (h : Rl P N G O w a.tmps st) (hdst : o.dst = some d) (hd : d < N)
    (hc : evc P st true o.op) (hrn : (ev P st o.op).rootNe d = true) (hQ : Q (st.put (fun t k => (trR P st L d o.op t k).isSome) d (ev P st o.op) (trT P st L d o.op))) (hK : Cont P N G O w K Q) : o.wp P a w K QQ := by
  obtain ⟨v, hrun, hv⟩ := ev_sound h hc
  have hd' : d < a.tmps.size := by rw [h.size]; exact hd
  refine wp_val hrun ?_
  rw [hdst]
  have plain : trR P st L d o.op = (fun _ _ => none) → trT P st L d o.op = noTok → K (a.put (some d) v) w := by
    intro e1 e2
    rw [e1, e2] at hQ
    exact hK (a.put (some d) v) w G O _ hds (h.pure hd (rx_put hv hrn)) (.refl _ _ _) hQ
  have mv : ∀ x : Operand, o.op = .assign x ∨ o.op = .move x → (st.get x).shared = true → trR P st L d o.op = rhoO x some → trT P st L d o.op = lk (tokL st x) → K (a.put (some d) v) w := by
    intro x hop hs e1 e2
    have hvx : v = a.eval x ∧ ev P st o.op = st.get x := by
      obtain ⟨dst, op, ty, pos, aft, gd⟩ := o
      simp only at hop
      rcases hop with rfl | rfl
      · have : (execOp a.eval { dst := dst, op := .assign x, type := ty, pos := pos, after := aft, guard := gd }).run P w = .ok (.value (a.eval x)) w := rfl
        rw [this] at hrun
        cases hrun
        exact ⟨rfl, rfl⟩
      · have : (execOp a.eval { dst := dst, op := .move x, type := ty, pos := pos, after := aft, guard := gd }).run P w = .ok (.value (a.eval x)) w := rfl
        rw [this] at hrun
        cases hrun
        exact ⟨rfl, rfl⟩
    obtain ⟨hvx, hev⟩ := hvx
    rw [e1, e2] at hQ
    have hrs := hv.rs (by rw [hev]; exact hs)
    refine hK (a.put (some d) v) w G _ _ hds (h.xfer hd hrs (rhoO x some) (fun t T cs hne hb => ?_) (fun k E hE => ?_) (fun k E hE => ?_)) (fr_ren d _) hQ
    · cases x with
      | tmp t' =>
        simp only [rhoO]
        by_cases e : t = t'
        · subst e; exact absurd hb (get_shared_box hs)
        · simp [e]
      | _ => rfl
    · rw [hev]; exact tkO_comp h hs (tokL_sub hE)
    · cases x with
      | tmp t => exact .inr ⟨t, k, by simp [rhoO], tokL_sub hE, by rw [hvx]; exact pv_put hd' k⟩
      | const c => exact .inl (by rw [hvx]; exact tkO_const hd' (tokL_sub hE))
      | global g => have := tokL_sub hE; cases this
      | func f => have := tokL_sub hE; cases this
  cases hop : o.op with
  | assign x =>
    by_cases hs : (st.get x).shared = true
    · exact mv x (.inl hop) hs (by rw [hop]; simp [trR, hs]) (by rw [hop]; simp [trT, hs])
    · exact plain (by rw [hop]; simp [trR, hs]) (by rw [hop]; simp [trT, hs])
  | move x =>
    by_cases hs : (L.contains d && (st.get x).shared) = true
    · exact mv x (.inr hop) (by simp at hs; exact hs.2) (by rw [hop]; simp only [trR, hs, if_true]) (by rw [hop]; simp only [trT, hs, if_true])
    · exact plain (by rw [hop]; simp only [trR, hs, if_false]; rfl) (by rw [hop]; simp only [trT, hs, if_false]; rfl)
  | load T x =>
    cases hg : st.get x with
    | ref r off =>
      by_cases hL : L.contains d = true
      · obtain ⟨dst, op, ty, pos, aft, gd⟩ := o
        simp only at hop
        subst hop
        simp only at hrun hv hQ hc hrn
        obtain ⟨h1, h2⟩ := hc
        have hx := get_sound h rfl h1
        simp only [hg] at hx h2
        obtain ⟨g, T', cs, e1, e2, e3⟩ := hx.ref
        simp only [e3] at h2
        have h2 := h2 trivial
        obtain ⟨u, k1, k2, k3⟩ := run_ld (P := P) (lies_drop (n := off) (lies_box h e3 e2)) h2
        rw [Nat.zero_add] at k1 k3
        have huv : u = v := by
          have : (execOp a.eval { dst := dst, op := Op.load T x, type := ty, pos := pos, after := aft, guard := gd }).run P w = .ok (.value u) w := by simp [execOp, e1, k1]
          rw [this] at hrun
          cases hrun
          rfl
        subst huv
        have hev : ev P st (.load T x) = ldA P T (cs.drop off) := by simp only [ev, hg, e3]
        have hpv : ∀ j, pv w a.tmps r (off + j + 1) = (w.cell? ⟨g, off + j, none⟩).getD undef := fun j => by simp only [pv, e2, Nat.zero_add]
        rw [hev] at hQ
        by_cases hR : isRowT P T = true
        · simp only [hR, if_true] at k3
          obtain ⟨us, rfl, k4⟩ := k3
          simp only [trR, trT, hg, hL, hR, if_true] at hQ
          refine hK (a.put (some d) (.agg us)) w G _ _ hds (h.xfer hd k2 _ (fun t T cs hne hb => ?_) (fun k E hE => ?_) (fun k E hE => ?_)) (fr_ren d _) hQ
          · by_cases e : t = r
            · simp [e]
            · simp [e]
          · unfold ldA; rw [if_pos hR]; rfl
          · cases k with
            | zero => simp [lk] at hE
            | succ j =>
              by_cases hj : j < szP P T
              · have hE : st.tok r (off + j + 1) = some E := by simpa [lk, hj] using hE
                refine .inr ⟨r, off + j + 1, by rw [if_pos ⟨rfl, by omega, by omega⟩]; congr 1; omega, hE, ?_⟩
                rw [hpv]
                simp only [pv, getD_set_eq' hd', Array.getD_eq_getD_getElem?, k4 j hj]
              · simp [lk, hj] at hE
        · have hR' : isRowT P T = false := by simpa using hR
          simp only [hR', Bool.false_eq_true, if_false] at k3
          simp only [trR, trT, hg, hL, hR', Bool.false_eq_true, if_false, if_true] at hQ
          refine hK (a.put (some d) u) w G _ _ hds (h.xfer hd k2 _ (fun t T cs hne hb => ?_) (fun k E hE => by simp [lk] at hE) (fun k E hE => ?_)) (fr_ren d _) hQ
          · by_cases e : t = r
            · simp [e]
            · simp [e]
          · have hk : k = 0 := by
              cases k with
              | zero => rfl
              | succ k => simp [lk] at hE
            subst hk
            have hE : st.tok r (off + 1) = some E := by simpa [lk] using hE
            refine .inr ⟨r, off + 1, by simp, hE, ?_⟩
            have e0 : pv w a.tmps r (off + 1) = u := by
              have := hpv 0
              simp only [Nat.add_zero, k3, Option.getD_some] at this
              exact this
            rw [e0]
            exact getD_set_eq' hd' _
      · exact plain (by rw [hop]; simp only [trR, hg, hL, if_false]; rfl) (by rw [hop]; simp only [trT, hg, hL, if_false]; rfl)
    | _ => exact plain (by rw [hop]; simp only [trR, hg]) (by rw [hop]; simp only [trT, hg])
  | _ => exact plain (by rw [hop]; rfl) (by rw [hop]; rfl)
end Go.Proofs.YtldnkeackphilaaGreatDoor
/- The calculus of values: operations that make memory or write it. -/
namespace Go.Proofs.YtldnkeackphilaaGreatDoor
open Go.RowKit

theorem cells_const {z : Value} {j : Nat} {v : Value} {a : AV} (h1 : z.cells[j]? = some v) (h2 : (z.cells.toList.map constCell)[j]? = some a) : a = constCell v := by
  rw [List.getElem?_map, Array.getElem?_toList, h1] at h2
  simpa using h2.symm
theorem isNil_eq {v : Value} (h : isNilS v = true) : v = .slice none 0 0 := by
  unfold isNilS at h
  split at h
  · rfl
  · cases h
theorem nil_any {o : Option Value} (h : o.any isNilS = true) : o = some (.slice none 0 0) := by
  cases o with
  | none => cases h
  | some u =>
    have : isNilS u = true := by simpa using h
    rw [isNil_eq this]
theorem tkC_lt {a : AV} {tk : Nat → Option (Option TypeId)} {k : Nat} {E : Option TypeId} (h : tkC a tk k = some E) : k < a.cells.length := by
  unfold tkC at h
  split at h
  · split at h
    · assumption
    · cases h
  · next hne =>
    have hcel : a.cells = [a] := by cases a <;> first | rfl | exact absurd rfl (hne _)
    rw [hcel]
    by_cases e : k = 0
    · subst e; simp
    · simp [e] at h
theorem alloc_sound {P : Program} {N : Nat} {G : Gh} {O : Om} {w : World} {a : Act} {st : St} {o : Oper} {K : Act → World → Prop} {QQ : Exit → Act → World → Prop} {Q : St → Prop} {d : Nat} {T : TypeId} {z : Value} (hds : a.defers = []) (h : Rl P N G O w a.tmps st) (hdst : o.dst = some d) (hop : o.op = .alloc T) (hd : d < N)
    (hz : zeroP P T = some z) (h1 : z.cells.all (·.oneCell') = true) (hQ : Q (st.put noSrc d (.box T (z.cells.toList.map constCell)) (nilTk z.cells))) (hK : Cont P N G O w K Q) : o.wp P a w K QQ := by
  have hrun : (execOp a.eval o).run P w = .ok (.value (.pointer (some ⟨w.heap.size, 0, none⟩))) (w.alloc (.cells z.cells T)) := by
    obtain ⟨dst, op, ty, pos, aft, gd⟩ := o
    simp only at hop
    subst hop
    unfold zeroP at hz
    cases hi : P.info? T with
    | none => simp [hi] at hz
    | some i =>
      have hz' : i.zero = some z := by simpa [hi] using hz
      simp [execOp, Instr.alloc, zeroValue, typeInfo, hi, hz', newVar, newRow]
  refine wp_val hrun ?_
  rw [hdst]
  obtain ⟨r1, r2⟩ := h.newbox hd T z.cells (z.cells.toList.map constCell) (by simp) (fun j v b hv hb => by
    have ho := (Array.all_eq_true_iff_forall_mem.1 h1) v (Array.mem_of_getElem? hv)
    rw [cells_const hv hb]
    exact ⟨ho, rs_cell ho⟩) (fun _ _ => none) (fun _ _ _ _ _ => rfl) (tk := nilTk z.cells) rfl (fun k E hE => .inl (by
      simp only [nilTk] at hE
      by_cases hn : (z.cells[k]?).any isNilS = true
      · rw [if_pos hn] at hE
        cases hE
        exact ⟨rfl, nil_any hn⟩
      · rw [if_neg hn] at hE
        cases hE))
  exact hK (a.put (some d) _) _ _ _ _ hds r1 r2 hQ
theorem rho_box {st : St} {x : Operand} (hs : (st.get x).shared = true) (f : Nat → Option Nat) : ∀ t T cs, st.val t = .box T cs → rhoO x f t 0 = none := by
  intro t T cs hb
  cases x with
  | tmp t' =>
    simp only [rhoO]
    by_cases e : t = t'
    · subst e; exact absurd hb (get_shared_box hs)
    · simp [e]
  | _ => rfl
theorem tkO_c0 {st : St} {c : Value} {E : Option TypeId} (h : tkO st (.const c) 0 = some E) : c = .slice none 0 0 ∧ E = none := by
  cases c with
  | slice A n c => cases A <;> cases n <;> cases c <;> first | (cases h; exact ⟨rfl, rfl⟩) | cases h
  | _ => cases h
theorem cell_src {P : Program} {N : Nat} {G : Gh} {O : Om} {w : World} {a : Act} {st : St} (h : Rl P N G O w a.tmps st) {x : Operand} (hx : st.ok true x) (hs : (st.get x).shared = true) (hw : (st.get x).whole = true) {base k : Nat} {E : Option TypeId} (hE : tkC (st.get x) (tkO st x) k = some E) :
    (E = none ∧ (a.eval x).cells[k]? = some (.slice none 0 0)) ∨ ∃ t j, x = .tmp t ∧ rhoO x (celF (st.get x) base) t j = some (base + k + 1) ∧ st.tok t j = some E ∧ (a.eval x).cells[k]? = some (pv w a.tmps t j) := by
  have hv := (get_sound h rfl hx).rs hs
  have hcl := (hv.cells hw).1
  have hk := tkC_lt hE
  cases x with
  | tmp t =>
    refine .inr ?_
    have hev : a.eval (.tmp t) = a.tmps.getD t undef := rfl
    rw [hev] at hv hcl ⊢
    generalize hA : st.get (.tmp t) = A at *
    by_cases hag : ∃ cs, A = .agg cs
    · obtain ⟨cs, rfl⟩ := hag
      obtain ⟨vs, hvs⟩ : ∃ vs, a.tmps.getD t undef = .agg vs := by
        generalize a.tmps.getD t undef = u at hv
        cases hv
        exact ⟨_, rfl⟩
      rw [hvs] at hcl ⊢
      simp only [Value.cells, AV.cells] at hcl hk ⊢
      have hE : st.tok t (k + 1) = some E := by
        simp only [tkC, tkO, if_pos hk] at hE
        exact hE
      refine ⟨t, k + 1, rfl, ?_, hE, ?_⟩
      · simp only [rhoO, celF, if_true]
        rw [if_pos ⟨by omega, by omega⟩]
        rfl
      · simp only [pv, hvs, Array.getD_eq_getD_getElem?]
        rw [Array.getElem?_eq_getElem (by omega)]
        rfl
    · have hcel : A.cells = [A] := by cases A <;> first | rfl | exact absurd ⟨_, rfl⟩ hag
      have hk0 : k = 0 := by rw [hcel] at hk; simpa using hk
      subst hk0
      have hE' : st.tok t 0 = some E := by
        have : tkC A (tkO st (.tmp t)) 0 = tkO st (.tmp t) 0 := by cases A <;> first | rfl | exact absurd ⟨_, rfl⟩ hag
        rw [this] at hE
        exact hE
      refine ⟨t, 0, rfl, ?_, hE', ?_⟩
      · have : celF A base 0 = some (base + 1) := by cases A <;> first | rfl | exact absurd ⟨_, rfl⟩ hag
        simp only [rhoO, if_true, this, Nat.add_zero]
      · rw [hcel] at hcl
        have h1 : (a.tmps.getD t undef).cells = #[a.tmps.getD t undef] := by
          generalize a.tmps.getD t undef = u at hv hcl
          cases u with
          | agg vs =>
            cases hv with
            | agg => exact absurd ⟨_, rfl⟩ hag
            | imm _ hh => cases hh
          | _ => rfl
        rw [h1]
        rfl
  | const c =>
    refine .inl ?_
    have hev : a.eval (.const c) = c := rfl
    rw [hev] at hv hcl ⊢
    by_cases hag : ∃ vs, c = .agg vs
    · obtain ⟨vs, rfl⟩ := hag
      simp only [St.get, constAV, AV.cells] at hk
      simp only [St.get, constAV, tkC, tkO, if_pos hk] at hE
      by_cases hn : (vs[k]?).any isNilS = true
      · rw [if_pos hn] at hE
        cases hE
        exact ⟨rfl, nil_any hn⟩
      · rw [if_neg hn] at hE
        cases hE
    · have hnag : ∀ b, constAV c ≠ .agg b := by
        intro b e
        unfold constAV at e
        split at e
        · exact hag ⟨_, rfl⟩
        · split at e <;> cases e
        · unfold constCell at e
          split at e <;> cases e
      have hE2 : k = 0 ∧ tkO st (.const c) 0 = some E := by
        have hE := hE
        simp only [St.get] at hE
        generalize constAV c = B at hnag hE
        have hh : tkC B (tkO st (.const c)) k = (if k = 0 then tkO st (.const c) 0 else none) := by cases B <;> first | rfl | exact absurd rfl (hnag _)
        rw [hh] at hE
        by_cases e : k = 0
        · simp only [e, if_true] at hE; exact ⟨e, hE⟩
        · simp [e] at hE
      obtain ⟨rfl, hE2⟩ := hE2
      have hc := tkO_c0 hE2
      obtain ⟨rfl, rfl⟩ := hc
      exact ⟨rfl, rfl⟩
  | global g => simp only [St.get, tkC, tkO] at hE; split at hE <;> cases hE
  | func f => simp only [St.get, tkC, tkO] at hE; split at hE <;> cases hE
theorem box_sound {P : Program} {N : Nat} {G : Gh} {O : Om} {w : World} {a : Act} {st : St} {o : Oper} {K : Act → World → Prop} {QQ : Exit → Act → World → Prop} {Q : St → Prop} {d : Nat} {T : TypeId} {x : Operand} (hds : a.defers = []) (h : Rl P N G O w a.tmps st) (hdst : o.dst = some d) (hop : o.op = .box T x) (hd : d < N)
    (hx : st.ok true x) (hs : (st.get x).shared = true) (hw : (st.get x).whole = true) (hne : ∀ t, x = .tmp t → t ≠ d)
    (hQ : Q (st.put (fun t k => (rhoO x (celF (st.get x) 0) t k).isSome) d (.box T (st.get x).cells) (lk (none :: celL st x)))) (hK : Cont P N G O w K Q) : o.wp P a w K QQ := by
  have hrun : (execOp a.eval o).run P w = .ok (.value (.pointer (some ⟨w.heap.size, 0, none⟩))) (w.alloc (.cells (a.eval x).cells T)) := by
    obtain ⟨dst, op, ty, pos, aft, gd⟩ := o
    simp only at hop
    subst hop
    simp [execOp, Instr.box, newVar, newRow]
  refine wp_val hrun ?_
  rw [hdst]
  have hv := (get_sound h rfl hx).rs hs
  obtain ⟨hl, hc⟩ := hv.cells hw
  obtain ⟨r1, r2⟩ := h.newbox hd T (a.eval x).cells (st.get x).cells hl (fun j v b h1 h2 => ⟨(hc j v b h1 h2).2, (hc j v b h1 h2).1⟩) (rhoO x (celF (st.get x) 0)) (fun t T cs _ hb => rho_box hs _ t T cs hb)
    (tk := lk (none :: celL st x)) rfl (fun k E hE => by
      have hE := celL_sub (show lk (celL st x) k = some E from hE)
      rcases cell_src (base := 0) h hx hs hw hE with ⟨e1, e2⟩ | ⟨t, j, e1, e2, e3, e4⟩
      · exact .inl ⟨e1, e2⟩
      · exact .inr ⟨t, j, by rw [e2, Nat.zero_add], e3, e4⟩)
  exact hK (a.put (some d) _) _ _ _ _ hds r1 r2 hQ
end Go.Proofs.YtldnkeackphilaaGreatDoor
/- The calculus of values: store, append, calls, rows out of parts. -/
namespace Go.Proofs.YtldnkeackphilaaGreatDoor
open Go.RowKit

theorem run_storeAt_any {P : Program} (w : World) (b o : Nat) (ty : TypeId) (v : Value) (ht : w.there b o v.cells.size) (hi : (P.info? ty).isSome = true) (hs : v.cells.size = szP P ty) (h1 : v.cells.all (·.oneCell') = true) :
    (Instr.storeAt ty (.pointer (some ⟨b, o, none⟩)) v).run P w = .ok () (w.setCells b o v.cells.toList) := by
  have := run_storeCells_cells (P := P) b o v.cells.toList 0 w (fun j hj => by simpa using (ht j (by simpa using hj)).1) (fun j hj => by simpa using (ht j (by simpa using hj)).2)
    (fun v hv => (Array.all_eq_true_iff_forall_mem.1 h1) v (by simpa using hv))
  obtain ⟨i, hi⟩ := Option.isSome_iff_exists.1 hi
  have hs : v.cells.size = i.size := by rw [hs]; simp [szP, hi]
  simp only [Nat.add_zero] at this
  simp [Instr.storeAt, Instr.sureAddr, storeVar, sizeOf, typeInfo, hi, hs, this]
theorem store_sound {P : Program} {N : Nat} {G : Gh} {O : Om} {w : World} {a : Act} {st : St} {o : Oper} {K : Act → World → Prop} {QQ : Exit → Act → World → Prop} {Q : St → Prop} {T T' : TypeId} {addr x : Operand} {r off : Nat} {cs : List AV} (hds : a.defers = []) (h : Rl P N G O w a.tmps st) (hdst : o.dst = none) (hop : o.op = .store T addr x)
    (had : st.ok true addr) (hx : st.ok true x) (hs : (st.get x).shared = true) (hw : (st.get x).whole = true) (hg : st.get addr = .ref r off) (hr : st.val r = .box T' cs) (hsz : (st.get x).cells.length = szP P T) (hi : (P.info? T).isSome = true) (hoff : off + (st.get x).cells.length ≤ cs.length) (hne : ∀ t, x = .tmp t → t ≠ r)
    (hQ : Q (st.sto (fun t k => (rhoO x (celF (st.get x) off) t k).isSome) r off T' cs (st.get x).cells (lk (celL st x)))) (hK : Cont P N G O w K Q) : o.wp P a w K QQ := by
  have hA := get_sound h rfl had
  rw [hg] at hA
  obtain ⟨g, T2, cs2, e1, e2, e3⟩ := hA.ref
  rw [hr] at e3
  cases e3
  have hv := (get_sound h rfl hx).rs hs
  obtain ⟨hl, hc⟩ := hv.cells hw
  obtain ⟨-, hth, r1, r2⟩ := h.store hr e2 (a.eval x).cells.toList (by simpa using hl) hoff (fun j u b h1 h2 => by
    obtain ⟨k1, k2⟩ := hc j u b (by simpa using h1) h2
    exact ⟨k2, k1⟩) (rhoO x (celF (st.get x) off)) (fun t T cs hb => rho_box hs _ t T cs hb) (fun t j k hk => by
    cases x with
    | tmp t' =>
      simp only [rhoO] at hk
      split at hk
      · unfold celF at hk
        split at hk
        · next cs' e =>
          split at hk
          · injection hk with hk
            simp only [e, AV.cells]
            omega
          · cases hk
        · next hh =>
          have hcel : (st.get (.tmp t')).cells = [st.get (.tmp t')] := by
            generalize st.get (.tmp t') = A at hh
            cases A <;> first | rfl | exact absurd rfl (hh _)
          split at hk
          · injection hk with hk
            rw [hcel]
            simp only [List.length_singleton]
            omega
          · cases hk
      · cases hk
    | _ => cases hk) (tk := lk (celL st x)) (fun k E hE hk => by
    rcases cell_src (base := off) h hx hs hw (celL_sub hE) with ⟨q1, q2⟩ | ⟨t, j, q1, q2, q3, q4⟩
    · exact .inl ⟨q1, by simpa using q2⟩
    · exact .inr ⟨t, j, hne t q1, q2, q3, by simpa using q4⟩)
  have hrun : (execOp a.eval o).run P w = .ok .skip (w.setCells g off (a.eval x).cells.toList) := by
    obtain ⟨dst, op, ty, pos, aft, gd⟩ := o
    simp only at hop
    subst hop
    have := run_storeAt_any (P := P) w g off T (a.eval x) (by simpa using hth) hi (by rw [hl, hsz]) (Array.all_eq_true_iff_forall_mem.2 fun u hu => by
      obtain ⟨j, hj⟩ := Array.getElem?_of_mem hu
      have hlt : j < (st.get x).cells.length := by rw [← hl]; exact (Array.getElem?_eq_some_iff.1 hj).1
      exact (hc j u _ hj (List.getElem?_eq_getElem hlt)).2)
    simp [execOp, e1, this]
  refine wp_skip' hrun ?_
  rw [hdst]
  exact hK a _ _ _ _ hds r1 r2 hQ
theorem append_sound {P : Program} {N : Nat} {G : Gh} {O : Om} {w : World} {a : Act} {st : St} {o : Oper} {K : Act → World → Prop} {QQ : Exit → Act → World → Prop} {Q : St → Prop} {d ts : Nat} {T E : TypeId} {x : Operand} {es es2 : List (List AV)} (hds : a.defers = []) (h : Rl P N G O w a.tmps st) (hdst : o.dst = some d)
    (hop : o.op = .call { callee := .builtin .append, args := #[.tmp ts, x], argTypes := #[T, T] }) (hd : d < N) (hE : elemP P T = some E) (hx : st.ok true x) (hts : st.val ts = .sl es) (hgx : st.get x = .sl es2) (htok : ∃ E0, st.tok ts 0 = some E0 ∧ (E0 = none ∨ E0 = some E)) (hs1 : ∀ e ∈ es, e.length = szP P E) (hs2 : ∀ e ∈ es2, e.length = szP P E)
    (hb : (es.length + es2.length) * bytesP P E ≤ 140737488355328) (h63 : es.length + es2.length ≤ 9223372036854775807) (hpos : 0 < szP P E) (hz : ∃ z, zeroP P E = some z ∧ z.cells.size = szP P E)
    (hQ : Q (st.put (fun t k => t == ts && k == 0) d (.sl (es ++ es2)) (fun k => if k = 0 then some (some E) else none))) (hK : Cont P N G O w K Q) : o.wp P a w K QQ := by
  have hu : P.underlying T = some (.slice E) := by
    unfold elemP at hE
    split at hE
    · next e he => cases hE; exact he
    · cases hE
  obtain ⟨z, hz, hzs⟩ := hz
  obtain ⟨E0, ht0, hE0⟩ := htok
  have hX := get_sound h rfl hx
  rw [hgx] at hX
  obtain ⟨i, hi⟩ : ∃ i, P.info? E = some i := by
    cases hi : P.info? E with
    | none => simp [zeroP, hi] at hz
    | some i => exact ⟨i, rfl⟩
  have hsz : szP P E = i.size := by simp [szP, hi]
  have hby : bytesP P E = i.bytes := by simp [bytesP, hi]
  have hzz : i.zero = some z := by simpa [zeroP, hi] using hz
  obtain ⟨v', w', G', O', hrun, r1, r2⟩ := h.append hd T o.type hu hi hzz (by rw [hzs, hsz]) (by rw [← hsz]; exact hpos) hts ht0 hE0 hs1 hs2 hX.sl (by rw [← hby]; exact hb) h63
  have hrun' : (execOp a.eval o).run P w = .ok (.value v') w' := by
    obtain ⟨dst, op, ty, pos, aft, gd⟩ := o
    simp only at hop hrun
    subst hop
    have he : a.eval (.tmp ts) = a.tmps.getD ts undef := rfl
    simp only [execOp, resolve, invoke, builtin, Sem.run_bind, Sem.run_pure, Result.andThen_ok, List.map_toArray, List.map_cons, List.map_nil, he, hrun]
  refine wp_val hrun' ?_
  rw [hdst]
  exact hK (a.put (some d) v') _ _ _ _ hds r1 r2 hQ
theorem call_sound {P : Program} {N : Nat} {G : Gh} {O : Om} {w : World} {a : Act} {st : St} {o : Oper} {K : Act → World → Prop} {QQ : Exit → Act → World → Prop} {Q : St → Prop} {d : Nat} {f : FuncId} {xs : Array Operand} {ats : Array TypeId} {b : AV} {rt : Nat → Option (Option TypeId)} (hds : a.defers = []) (h : Rl P N G O w a.tmps st) (hdst : o.dst = some d)
    (hop : o.op = .call { callee := .value (.func f), args := xs, argTypes := ats }) (hd : d < N) (hx : ∀ x ∈ xs, st.ok true x) (hsh : ∀ x ∈ xs, (st.get x).shared = true) (hf : Has P f (xs.toList.map st.get) b rt)
    (hQ : Q (st.put noSrc d b rt)) (hK : Cont P N G O w K Q) : o.wp P a w K QQ := by
  have hrun : (execOp a.eval o).run P w = .ok (.enter f (xs.map a.eval)) w := by
    obtain ⟨dst, op, ty, pos, aft, gd⟩ := o
    simp only at hop
    subst hop
    have := hf.enters (xs.map a.eval) w
    have e : execOp a.eval { dst := dst, op := .call { callee := .value (.func f), args := xs, argTypes := ats }, type := ty, pos := pos, after := aft, guard := gd } = callFunc f (#[] ++ xs.map a.eval ++ #[]) := rfl
    rw [e]
    simpa using this
  unfold Oper.wp
  rw [hrun, Oper.upon_enter, hdst]
  refine (hf.calls G w (xs.map a.eval) h.cells (by simp) (fun i v b' hv hb => ?_)).mono ?_
  · simp only [Array.getElem?_map] at hv
    simp only [List.getElem?_map, Array.getElem?_toList] at hb
    cases hxi : xs[i]? with
    | none => rw [hxi] at hv; cases hv
    | some x =>
      rw [hxi] at hv hb
      simp only [Option.map_some, Option.some.injEq] at hv hb
      subst hv hb
      have hm := Array.mem_of_getElem? hxi
      exact (get_sound h rfl (hx x hm)).rs (hsh x hm)
  · rintro e w' ⟨v, G', O', rfl, r1, r2⟩
    obtain ⟨O2, q1, q2⟩ := h.ret hd hf.fin r1 r2
    exact hK (a.put (some d) v) _ _ _ _ hds q1 q2 hQ
theorem fill_row {P : Program} {G : Gh} {sz : Nat} : ∀ (parts : List (Nat × Value)) (es : List (List AV)) (i n : Nat) (cells : Array Value), i + parts.length = n → parts.length = es.length → cells.size = n * sz → (∀ (j : Nat) p, parts[j]? = some p → p.1 = i + j) →
    (∀ (j : Nat) p e, parts[j]? = some p → es[j]? = some e → e.length = sz ∧ p.2.cells.size = sz ∧ ∀ (k : Nat) u b, p.2.cells[k]? = some u → e[k]? = some b → u.oneCell' = true ∧ RS G u b) →
    ∃ cells', Instr.fill (fun i => some (i * sz, sz)) cells parts = some cells' ∧ cells'.size = n * sz ∧ (∀ k, k < i * sz → cells'[k]? = cells[k]?) ∧ ∀ (k : Nat) u b, cells'[i * sz + k]? = some u → es.flatten[k]? = some b → u.oneCell' = true ∧ RS G u b
  | [], es, i, n, cells, h1, h2, h3, h4, h5 => by
    obtain rfl : es = [] := List.eq_nil_of_length_eq_zero (by simpa using h2.symm)
    exact ⟨cells, rfl, h3, fun _ _ => rfl, fun k u b _ hb => by simp at hb⟩
  | p :: parts, es, i, n, cells, h1, h2, h3, h4, h5 => by
    obtain ⟨e, es, rfl⟩ : ∃ e es', es = e :: es' := by
      cases es with
      | nil => simp at h2
      | cons e es => exact ⟨e, es, rfl⟩
    simp only [List.length_cons] at h1 h2
    obtain ⟨p1, p2⟩ := p
    have hp1 : p1 = i := h4 0 _ rfl
    subst hp1
    obtain ⟨he, hps, hpc⟩ := h5 0 _ _ rfl rfl
    have hfit : p1 * sz + sz ≤ n * sz := by
      have := Nat.mul_le_mul_right sz (show p1 + 1 ≤ n by omega)
      rw [Nat.add_mul] at this
      omega
    have hfold : ∀ (l : List Value) (j : Nat) (cs : Array Value), (l.zipIdx j).foldl (fun cs (q : Value × Nat) => cs.setIfInBounds (p1 * sz + q.2) q.1) cs = setsA cs (p1 * sz + j) l := by
      intro l
      induction l with
      | nil => intro j cs; rfl
      | cons u l ih =>
        intro j cs
        rw [List.zipIdx_cons, List.foldl_cons, ih, setsA]
        rfl
    have hstep : Instr.fill (fun i => some (i * sz, sz)) cells ((p1, p2) :: parts) = Instr.fill (fun i => some (i * sz, sz)) (setsA cells (p1 * sz) p2.cells.toList) parts := by
      simp only [Instr.fill]
      rw [if_neg (by simp [hps, h3]; omega)]
      congr 1
      have := hfold p2.cells.toList 0 cells
      rw [Nat.add_zero] at this
      rw [← this, ← Array.foldl_toList, Array.toList_zipIdx]
    obtain ⟨cells', f1, f2, f3, f4⟩ := fill_row (P := P) (G := G) (sz := sz) parts es (p1 + 1) n (setsA cells (p1 * sz) p2.cells.toList) (by omega) (by omega) (by rw [setsA_size, h3]) (fun j q hq => by have := h4 (j + 1) q hq; omega) (fun j q e hq he => h5 (j + 1) q e hq he)
    have hget := setsA_get p2.cells.toList (p1 * sz) cells (by simp [hps, h3]; omega)
    refine ⟨cells', hstep.trans f1, f2, fun k hk => ?_, fun k u b hu hb => ?_⟩
    · rw [f3 k (by rw [Nat.add_mul]; omega), hget k, if_neg (by omega)]
    · rw [List.flatten_cons] at hb
      by_cases hk : k < sz
      · rw [f3 _ (by rw [Nat.add_mul]; omega), hget, if_pos (by simp [hps]; omega)] at hu
        rw [List.getElem?_append_left (by omega)] at hb
        simp only [Nat.add_sub_cancel_left, Array.getElem?_toList] at hu
        exact hpc k u b hu hb
      · rw [List.getElem?_append_right (by omega), he] at hb
        refine f4 (k - sz) u b ?_ hb
        rw [← hu]
        congr 1
        rw [Nat.add_mul]
        omega
theorem row_sound {P : Program} {N : Nat} {G : Gh} {O : Om} {w : World} {a : Act} {st : St} {o : Oper} {K : Act → World → Prop} {QQ : Exit → Act → World → Prop} {Q : St → Prop} {d n : Nat} {T E : TypeId} {parts : Array (Nat × Operand)} (hds : a.defers = []) (h : Rl P N G O w a.tmps st) (hdst : o.dst = some d)
    (hop : o.op = .buildSlice T n parts) (hd : d < N) (hE : elemP P T = some E) (hp : ∀ p ∈ parts, st.ok true p.2 ∧ (st.get p.2).shared = true ∧ (st.get p.2).whole = true ∧ (st.get p.2).cells.length = szP P E) (hsz : n * szP P E ≤ 16777216) (hz : ∃ z, zeroP P E = some z ∧ z.cells.size = szP P E ∧ z.cells.all (·.oneCell') = true) (hr : parts.toList.map (·.1) = List.range n)
    (hn : n ≤ 16777216) (hQ : Q (st.put noSrc d (.sl (parts.toList.map fun p => (st.get p.2).cells)) (fun k => if k = 0 then some (some E) else none))) (hK : Cont P N G O w K Q) : o.wp P a w K QQ := by
  have hu : P.underlying T = some (.slice E) := by
    unfold elemP at hE
    split at hE
    · next e he => cases hE; exact he
    · cases hE
  obtain ⟨z, hz, hzs, hz1⟩ := hz
  obtain ⟨i, hi⟩ : ∃ i, P.info? E = some i := by
    cases hi : P.info? E with
    | none => simp [zeroP, hi] at hz
    | some i => exact ⟨i, rfl⟩
  have hsi : szP P E = i.size := by simp [szP, hi]
  have hzz : i.zero = some z := by simpa [zeroP, hi] using hz
  have hlen : parts.size = n := by
    have := congrArg List.length hr
    simpa using this
  let zc : Array Value := if n * i.size = 0 then #[] else z.cells
  let init : Array Value := (Array.range (n * i.size)).map (zc[· % zc.size]!)
  obtain ⟨cells, f1, f2, -, f4⟩ := fill_row (P := P) (G := G) (sz := i.size) (parts.map fun (i, x) => (i, a.eval x)).toList (parts.toList.map fun p => (st.get p.2).cells) 0 n init (by simp [hlen]) (by simp) (by simp [init]) (fun j p hj => by
    simp only [Array.toList_map, List.getElem?_map] at hj
    have hj2 := congrArg (fun l : List Nat => l[j]?) hr
    simp only [List.getElem?_map] at hj2
    cases hq : parts.toList[j]? with
    | none => rw [hq] at hj; cases hj
    | some q =>
      rw [hq] at hj hj2
      have hjn : j < n := by rw [← hlen]; simpa using (List.getElem?_eq_some_iff.1 hq).1
      simp [hjn] at hj hj2
      rw [← hj]
      simp [hj2]) (fun j p e hj he => by
    simp only [Array.toList_map, List.getElem?_map] at hj he
    cases hq : parts.toList[j]? with
    | none => rw [hq] at hj; cases hj
    | some q =>
      rw [hq] at hj he
      simp only [Option.map_some, Option.some.injEq] at hj he
      subst hj he
      obtain ⟨q1, q2, q3, q4⟩ := hp q (by simpa using List.mem_of_getElem? hq)
      obtain ⟨c1, c2⟩ := ((get_sound h rfl q1).rs q2).cells q3
      exact ⟨by rw [q4, hsi], by rw [c1, q4, hsi], fun k u b hu hb => ⟨(c2 k u b hu hb).2, (c2 k u b hu hb).1⟩⟩)
  have hrun : (execOp a.eval o).run P w = .ok (.value (.slice (some ⟨w.heap.size, 0, none⟩) n n)) (w.alloc (.cells cells E)) := by
    obtain ⟨dst, op, ty, pos, aft, gd⟩ := o
    simp only at hop
    subst hop
    have hle : ¬ (16777216 < n * i.size) := by rw [← hsi]; omega
    have f1' : Instr.fill (fun j => some (j * i.size, i.size)) ((Array.range (n * i.size)).map (zc[· % zc.size]!)) (parts.map fun (i, x) => (i, a.eval x)).toList = some cells := f1
    simp only [execOp, Instr.buildSlice, Sem.run_bind, run_underlying hu, Result.andThen_ok, sizeOf, typeInfo, run_program, hi, Sem.run_pure]
    rw [if_neg hle]
    by_cases h0 : n * i.size = 0
    · rw [show zc = #[] by simp [zc, h0]] at f1'
      rw [if_pos h0]
      simp only [Sem.run_bind, Sem.run_pure, Result.andThen_ok]
      rw [f1']
      simp [newRow]
    · rw [show zc = z.cells by simp [zc, h0]] at f1'
      rw [if_neg h0]
      simp only [Sem.run_bind, Sem.run_pure, Result.andThen_ok, zeroValue, typeInfo, run_program, hi, hzz]
      rw [f1']
      simp [newRow]
  refine wp_val hrun ?_
  rw [hdst]
  have hes : (parts.toList.map fun p => (st.get p.2).cells).length = n := by simp [hlen]
  obtain ⟨r1, r2⟩ := h.newrow hd E cells n (parts.toList.map fun p => (st.get p.2).cells) (fun e he => by
    obtain ⟨q, hq, rfl⟩ := List.mem_map.1 he
    exact (hp q (by simpa using hq)).2.2.2) (by omega) (by unfold maxLen; omega) (by rw [f2, hsi]) (fun j v b hv hb => f4 j v b (by simpa using hv) hb)
  rw [hes] at r1
  exact hK (a.put (some d) _) _ _ _ _ hds r1 r2 hQ
end Go.Proofs.YtldnkeackphilaaGreatDoor
