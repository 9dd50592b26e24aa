/- The linear calculus: make of a slice of one-cell elements. -/
import Derived.Test.YtldnkeackphilaaGreatDoorNd5
import Derived.Lib.ReflectliteSwap
import Derived.Deep.OwnRows
set_option linter.unusedSimpArgs false
set_option linter.unusedVariables false
namespace Go.Proofs.YtldnkeackphilaaGreatDoor.X
open Go.RowKit

def zonP (P : Program) (E : TypeId) : Option Value := match zeroP P E with
  | some z => if z.oneCell' then some z else none
  | none => none
def mkN : AV → Option Nat
  | .imm (.int _ k) => if 0 ≤ k ∧ k ≤ 17592186044416 then some k.toNat else none
  | _ => none
theorem mkN_int (kd : IntKind) (k : Nat) (h : k ≤ 17592186044416) : mkN (.imm (.int kd (k : Int))) = some k := by
  show (if 0 ≤ (k : Int) ∧ (k : Int) ≤ 17592186044416 then some (k : Int).toNat else none) = some k
  rw [if_pos (by omega), Int.toNat_natCast]
def makE (E d k : Nat) (z : Value) : Eff := ⟨some d, .rw d 0 k, [(d, some (.row E (List.replicate k [.imm z])))], [d]⟩
theorem mkN_spec {a : AV} {k : Nat} (h : mkN a = some k) : ∃ kd, a = .imm (.int kd (k : Int)) ∧ k ≤ 17592186044416 := by
  unfold mkN at h
  split at h
  · next kd n =>
    split at h
    · next hk =>
      cases h
      exact ⟨kd, by rw [Int.toNat_of_nonneg hk.1], by omega⟩
    · cases h
  · cases h
section
variable {P : Program} {N : Nat} {C : Cx} {G : Gh} {ν : Nu} {w : World} {tm : Array Value} {st : St}
theorem make_sound {a : Act} {o : Oper} {K : Act → World → Prop} {QQ : Exit → Act → World → Prop} {d k : Nat} {T E : TypeId} {x y : Operand} {z : Value} (hds : a.defers = []) (h : Inv P N C G ν w a.tmps st) (hdst : o.dst = some d) (hop : o.op = .makeSlice T x y) (hd : d < N) (hu : st.usd d = false)
    (hx : st.ok true x) (hy : st.ok true y) (hE : elemP P T = some E) (hz : zonP P E = some z) (hs : szP P E = 1) (hb : bytesP P E ≤ 16) (h1 : mkN (st.get x) = some k) (h2 : mkN (st.get y) = some k)
    (hK : Cont P N C K (st.app (makE E d k z))) : o.wp P a w K QQ := by
  have hu' := elem_und hE
  obtain ⟨k1, e1, hk⟩ := mkN_spec h1
  obtain ⟨k2, e2, -⟩ := mkN_spec h2
  have g1 := get_sound h rfl hx
  have g2 := get_sound h rfl hy
  rw [e1] at g1
  rw [e2] at g2
  have v1 := g1.immI.1
  have v2 := g2.immI.1
  unfold zonP at hz
  cases hz0 : zeroP P E with
  | none => rw [hz0] at hz; cases hz
  | some z' =>
    rw [hz0] at hz
    simp only at hz
    split at hz
    case isFalse => cases hz
    next h1c =>
    cases hz
    obtain ⟨i, hi⟩ : ∃ i, P.info? E = some i := by
      cases hi : P.info? E with
      | none => simp [zeroP, hi] at hz0
      | some i => exact ⟨i, rfl⟩
    have hsi : i.size = 1 := by rw [← hs]; simp [szP, hi]
    have hbi : bytesP P E = i.bytes := by simp [bytesP, hi]
    have hzi : i.zero = some z := by simpa [zeroP, hi] using hz0
    have hrun : (execOp a.eval o).run P w = .ok (.value (.slice (some ⟨w.heap.size, 0, none⟩) k k)) (w.alloc (.cells (madeCells #[z] k) E)) := by
      obtain ⟨dst, op, ty, pos, aft, gd⟩ := o
      simp only at hop
      subst hop
      have hr := run_make_row' (P := P) T E z i.bytes hu' (by rw [hi, Option.map_some, hzi, hsi]) (Lib.cells_one h1c) k1 k2 k (by rw [← hbi]; calc bytesP P E * k ≤ 16 * k := Nat.mul_le_mul_right _ hb
                                                                                                               _ ≤ 281474976710656 := by omega) (by omega) w
      simp only [execOp, v1, v2, Sem.run_bind, hr, Result.andThen_ok, Sem.run_pure]
    refine wp_val hrun ?_
    rw [hdst]
    have hlen : (List.replicate k [AV.imm z]).length = k := by simp
    have hn := h.new hu ⟨some w.heap.size, k, szP P E⟩ (.row E (List.replicate k [.imm z])) (w' := w.alloc (.cells (madeCells #[z] k) E)) rfl rfl rfl (by simp) (fun g hg => Below.heap_alloc _ _ _ hg) (fun g hg => by cases hg; exact Nat.le_refl _)
      ⟨fun e he => by rw [(List.mem_replicate.1 he).2, hs]; rfl, .inr ⟨w.heap.size, k, Nu.set_eq _ _ _, fun i b hg => absurd (ghost_lt h.cells hg) (Nat.lt_irrefl _), by omega, by unfold maxLen; omega, _, heap_alloc_new _ _, by rw [size_madeCells, hs, Nat.mul_one], fun j v b hv hb => by
        have hj : j < k := by
          have := (Array.getElem?_eq_some_iff.1 hv).1
          simpa [size_madeCells] using this
        have hvz : v = z := by
          simp only [madeCells, Array.getElem?_map] at hv
          rw [Array.getElem?_eq_getElem (by simpa using hj)] at hv
          have h0 : j % 1 = 0 := Nat.mod_one j
          simpa [h0] using hv.symm
        have hfl : (List.replicate k [AV.imm z]).flatten = List.replicate k (.imm z) := by simp
        rw [hfl, List.getElem?_replicate, if_pos hj] at hb
        cases hb
        subst hvz
        exact ⟨h1c, .imm _ h1c⟩⟩⟩
    have hfin := hn.putv hd (v := .slice (some ⟨w.heap.size, 0, none⟩) k k) (a := .rw d 0 k) (.x (.rw d 0 k w.heap.size k (szP P E) 0 (Nu.set_eq _ _ _) (by omega) (fun _ => by simp)))
    exact hK (a.put (some d) (.slice (some ⟨w.heap.size, 0, none⟩) k k)) _ G _ hds hfin
end
end Go.Proofs.YtldnkeackphilaaGreatDoor.X
namespace Go.Proofs.YtldnkeackphilaaGreatDoor.X
open Go.RowKit

def slotF : AV → Option (FuncId × List AV)
  | .fnc f cs => some (f, cs)
  | .imm (.func (.func f) fs cs) => if fs.size == 0 && cs.size == 0 then some (f, []) else none
  | _ => none
def rowE (st : St) (E d n : Nat) (ns : List Nat) (l : List (Nat × Operand)) : Eff := ⟨some d, .rw d 0 n, (d, some (.row E (l.map fun p => (fixA (frzF st.blk ns (st.get p.2))).cells))) :: dropE ns, [d]⟩
def appE (E d : Nat) (es es2 : List (List AV)) (ns : List Nat) : Eff := ⟨some d, .rw d 0 (es.length + es2.length), (d, some (.row E (es ++ es2))) :: dropE ns, [d]⟩
def stepV (P : Program) (N : Nat) (dst : Option Nat) (op : Op) (R : Eff → Prop) (st : St) : Prop :=
  match op with
  | .alloc T => onD dst fun d => d < N ∧ st.usd d = false ∧ ∃ cs, zbx P T = some cs ∧ R ⟨some d, .ref d 0, [(d, some (.box T cs))], [d]⟩
  | .box T x => onD dst fun d => d < N ∧ st.usd d = false ∧ st.ok true x ∧ (st.get x).whole = true ∧ R ⟨some d, .ref d 0, [(d, some (.box T (st.get x).cells))], [d]⟩
  | .store T addr x => dst = none ∧ st.ok true addr ∧ st.ok true x ∧ (st.get x).whole = true ∧ infP P T = true ∧ (st.get x).cells.length = szP P T ∧ stoK P st (st.get x) R (st.get addr)
  | .call { callee := .builtin .append, args := xs, argTypes := ats } => match xs.toList, ats.toList with
    | [s, x], [T, T'] => T = T' ∧ onD dst fun d => d < N ∧ st.usd d = false ∧ st.ok true s ∧ st.ok true x ∧ ∃ E es ns es2, elemP P T = some E ∧ appS st E (st.get s) = some (es, ns) ∧ appX st (st.get x) = some es2 ∧ appC P E es es2 ∧ R (appE E d es es2 ns)
    | _, _ => False
  | .call { callee := .value (.func f), args := xs, argTypes := _ } => onD dst fun d => d < N ∧ (∀ x ∈ xs.toList, st.ok true x) ∧ ∃ e, CallE P st d f (xs.toList.map st.get) e ∧ R e
  | .call { callee := .value (.tmp t), args := xs, argTypes := _ } => onD dst fun d => d < N ∧ (∀ x ∈ xs.toList, st.ok true x) ∧ ∃ f cs, slotF (st.val t) = some (f, cs) ∧ ∃ e, CallE P st d f (xs.toList.map st.get ++ cs) e ∧ R e
  | .buildSlice T n parts => onD dst fun d => d < N ∧ st.usd d = false ∧ ∃ E ns, elemP P T = some E ∧ frzOk st.blk ns ∧ (∀ p ∈ parts.toList, st.ok true p.2 ∧ (st.get p.2).whole = true ∧ pureA (frzF st.blk ns (st.get p.2)) = true ∧ (fixA (frzF st.blk ns (st.get p.2))).cells.length = szP P E) ∧
      n * szP P E ≤ 16777216 ∧ n ≤ 16777216 ∧ zokP P E = true ∧ parts.toList.map (·.1) = List.range n ∧ R (rowE st E d n ns parts.toList)
  | .makeSlice T x y => onD dst fun d => d < N ∧ st.usd d = false ∧ st.ok true x ∧ st.ok true y ∧ ∃ E k z, elemP P T = some E ∧ zonP P E = some z ∧ szP P E = 1 ∧ bytesP P E ≤ 16 ∧ mkN (st.get x) = some k ∧ mkN (st.get y) = some k ∧ R (makE E d k z)
  | op => onD dst fun d => d < N ∧ evc P st true op ∧ R ⟨some d, ev P st op, [], []⟩
def yC (want : Bool) : AV → Option Bool
  | .imm (.bool b) => some (b == want)
  | .cnd y (.imm (.bool b)) => some (y && (b == want))
  | _ => none
def yA (ds : List (Option Nat)) (st : St) (j : Nat) (want : Bool) : Option Bool := match ds.getD j none with
  | none => none
  | some t => yC want (st.val t)
def opV (P : Program) (N : Nat) (ds : List (Option Nat)) (o : Oper) (R : Eff → Prop) (st : St) : Prop := match o.guard with
  | none => stepV P N o.dst o.op R st
  | some (j, want) => ∃ y, yA ds st j want = some y ∧ onD o.dst fun d => d < N ∧ match isGoCall o.op with
    | some (f, xs) => (∀ x ∈ xs, st.ok y x) ∧ pureL (xs.map st.get) = true ∧ ∃ a rt, (y = true → Has P f (fixL (xs.map st.get)) a rt) ∧ a.shared = true ∧ R ⟨some d, .cnd y a, [], []⟩
    | none => evc P st y o.op ∧ R ⟨some d, .cnd y (ev P st o.op), [], []⟩
theorem onD_some {dst : Option Nat} {f : Nat → Prop} (h : onD dst f) : ∃ d, dst = some d ∧ f d := by
  unfold onD at h
  split at h
  · exact ⟨_, rfl, h⟩
  · exact h.elim
theorem stoK_one {P : Program} {st : St} {v : AV} {R : Eff → Prop} {a : AV} (h : stoK P st v R a) : ∃ e, R e ∧ stoK P st v (· = e) a := by
  unfold stoK at h ⊢
  split at h
  · unfold stoB at h ⊢
    split at h
    · exact ⟨_, h.2, h.1, rfl⟩
    · exact h.elim
  · unfold stoE at h ⊢
    split at h
    · obtain ⟨h1, h2, ns, h3, h4, h5, h6⟩ := h
      exact ⟨_, h6, h1, h2, ns, h3, h4, h5, rfl⟩
    · exact h.elim
  · exact h.elim
theorem stepV_one {P : Program} {N : Nat} {dst : Option Nat} {op : Op} {R : Eff → Prop} {st : St} (h : stepV P N dst op R st) : ∃ e, R e ∧ stepV P N dst op (· = e) st := by
  unfold stepV at h
  split at h
  · obtain ⟨d, rfl, h1, h2, cs, h3, h4⟩ := onD_some h
    exact ⟨_, h4, by simp only [stepV, onD]; exact ⟨h1, h2, cs, h3, rfl⟩⟩
  · obtain ⟨d, rfl, h1, h2, h3, h4, h5⟩ := onD_some h
    exact ⟨_, h5, by simp only [stepV, onD]; exact ⟨h1, h2, h3, h4, trivial⟩⟩
  · obtain ⟨h0, h1, h2, h3, h4, h5, h6⟩ := h
    obtain ⟨e, k1, k2⟩ := stoK_one h6
    exact ⟨e, k1, by simp only [stepV]; exact ⟨h0, h1, h2, h3, h4, h5, k2⟩⟩
  · split at h
    · next e1 e2 =>
      obtain ⟨h0, h⟩ := h
      obtain ⟨d, rfl, h1, h2, h3, h4, E, es, ns, es2, h5, h6, h7, h8, h9⟩ := onD_some h
      exact ⟨_, h9, by simp only [stepV, e1, e2, onD]; exact ⟨h0, h1, h2, h3, h4, E, es, ns, es2, h5, h6, h7, h8, rfl⟩⟩
    · exact h.elim
  · obtain ⟨d, rfl, h1, h2, e, h3, h4⟩ := onD_some h
    exact ⟨e, h4, by simp only [stepV, onD]; exact ⟨h1, h2, e, h3, rfl⟩⟩
  · obtain ⟨d, rfl, h1, h2, f, cs, h3, e, h4, h5⟩ := onD_some h
    exact ⟨e, h5, by simp only [stepV, onD]; exact ⟨h1, h2, f, cs, h3, e, h4, rfl⟩⟩
  · obtain ⟨d, rfl, h1, h2, E, ns, h3, h4, h5, h6, h7, h8, h9, h10⟩ := onD_some h
    exact ⟨_, h10, by simp only [stepV, onD]; exact ⟨h1, h2, E, ns, h3, h4, h5, h6, h7, h8, h9, rfl⟩⟩
  · obtain ⟨d, rfl, h1, h2, h3, h4, E, k, z, h5, h6, h7, h8, h9, h10, h11⟩ := onD_some h
    exact ⟨_, h11, by simp only [stepV, onD]; exact ⟨h1, h2, h3, h4, E, k, z, h5, h6, h7, h8, h9, h10, rfl⟩⟩
  · obtain ⟨d, hd, h1, h2, h3⟩ := onD_some h
    refine ⟨_, h3, ?_⟩
    unfold stepV
    subst hd
    split <;> first | (exfalso; simp_all; done) | exact ⟨h1, h2, rfl⟩
theorem opV_one {P : Program} {N : Nat} {ds : List (Option Nat)} {o : Oper} {R : Eff → Prop} {st : St} (h : opV P N ds o R st) : ∃ e, R e ∧ opV P N ds o (· = e) st := by
  unfold opV at h
  split at h
  · next e0 =>
    obtain ⟨e, h1, h2⟩ := stepV_one h
    exact ⟨e, h1, by simp only [opV, e0]; exact h2⟩
  · next j want e0 =>
    obtain ⟨y, hy, h⟩ := h
    obtain ⟨d, hd, h1, h⟩ := onD_some h
    split at h
    · next f xs e3 =>
      obtain ⟨h2, h3, a, rt, h4, h5, h6⟩ := h
      exact ⟨_, h6, by simp only [opV, e0, hd, onD, e3]; exact ⟨y, hy, h1, h2, h3, a, rt, h4, h5, rfl⟩⟩
    · next e3 =>
      obtain ⟨h2, h3⟩ := h
      exact ⟨_, h3, by simp only [opV, e0, hd, onD, e3]; exact ⟨y, hy, h1, h2, rfl⟩⟩
theorem stepV_mono {P : Program} {N : Nat} {dst : Option Nat} {op : Op} {R R' : Eff → Prop} {st : St} (h : stepV P N dst op R st) (hr : ∀ e, R e → R' e) : stepV P N dst op R' st := by
  have key : ∀ e, stepV P N dst op (· = e) st → R' e → stepV P N dst op R' st := by
    intro e h hre
    unfold stepV at h ⊢
    split at h
    · obtain ⟨d, rfl, h1, h2, cs, h3, h4⟩ := onD_some h
      exact ⟨h1, h2, cs, h3, h4 ▸ hre⟩
    · obtain ⟨d, rfl, h1, h2, h3, h4, h5⟩ := onD_some h
      exact ⟨h1, h2, h3, h4, h5 ▸ hre⟩
    · obtain ⟨h0, h1, h2, h3, h4, h5, h6⟩ := h
      refine ⟨h0, h1, h2, h3, h4, h5, ?_⟩
      unfold stoK at h6 ⊢
      split at h6
      · unfold stoB at h6 ⊢
        split at h6
        · exact ⟨h6.1, h6.2 ▸ hre⟩
        · exact h6.elim
      · unfold stoE at h6 ⊢
        split at h6
        · obtain ⟨h1, h2, ns, h3, h4, h5, h6⟩ := h6
          exact ⟨h1, h2, ns, h3, h4, h5, h6 ▸ hre⟩
        · exact h6.elim
      · exact h6.elim
    · split at h
      · obtain ⟨h0, h⟩ := h
        obtain ⟨d, rfl, h1, h2, h3, h4, E, es, ns, es2, h5, h6, h7, h8, h9⟩ := onD_some h
        exact ⟨h0, h1, h2, h3, h4, E, es, ns, es2, h5, h6, h7, h8, h9 ▸ hre⟩
      · exact h.elim
    · obtain ⟨d, rfl, h1, h2, e', h3, h4⟩ := onD_some h
      exact ⟨h1, h2, e', h3, h4 ▸ hre⟩
    · obtain ⟨d, rfl, h1, h2, f, cs, h3, e', h4, h5⟩ := onD_some h
      exact ⟨h1, h2, f, cs, h3, e', h4, h5 ▸ hre⟩
    · obtain ⟨d, rfl, h1, h2, E, ns, h3, h4, h5, h6, h7, h8, h9, h10⟩ := onD_some h
      exact ⟨h1, h2, E, ns, h3, h4, h5, h6, h7, h8, h9, h10 ▸ hre⟩
    · obtain ⟨d, rfl, h1, h2, h3, h4, E, k, z, h5, h6, h7, h8, h9, h10, h11⟩ := onD_some h
      exact ⟨h1, h2, h3, h4, E, k, z, h5, h6, h7, h8, h9, h10, h11 ▸ hre⟩
    · obtain ⟨d, rfl, h1, h2, h3⟩ := onD_some h
      exact ⟨h1, h2, h3 ▸ hre⟩
  obtain ⟨e, h1, h2⟩ := stepV_one h
  exact key e h2 (hr e h1)
theorem opV_mono {P : Program} {N : Nat} {ds : List (Option Nat)} {o : Oper} {R R' : Eff → Prop} {st : St} (h : opV P N ds o R st) (hr : ∀ e, R e → R' e) : opV P N ds o R' st := by
  unfold opV at h ⊢
  split at h
  · exact stepV_mono h hr
  · obtain ⟨y, hy, h⟩ := h
    obtain ⟨d, hd, h1, h⟩ := onD_some h
    refine ⟨y, hy, ?_⟩
    rw [hd]
    refine ⟨h1, ?_⟩
    split at h
    · obtain ⟨h2, h3, a, rt, h4, h5, h6⟩ := h
      exact ⟨h2, h3, a, rt, h4, h5, hr _ h6⟩
    · exact ⟨h.1, hr _ h.2⟩
section
variable {P : Program} {N : Nat} {C : Cx} {G : Gh} {ν : Nu} {w : World} {tm : Array Value} {st : St}
theorem vals_of {a : Act} (h : Inv P N C G ν w a.tmps st) {xs : Array Operand} (hx : ∀ x ∈ xs.toList, st.ok true x) : ∀ (i : Nat) v b, (xs.map a.eval)[i]? = some v → (xs.toList.map st.get)[i]? = some b → RN G ν v b := by
  intro i v b hv hb
  simp only [Array.getElem?_map] at hv
  simp only [List.getElem?_map, Array.getElem?_toList] at hb
  cases hxi : xs[i]? with
  | none => rw [hxi] at hv; cases hv
  | some x =>
    rw [hxi] at hv hb
    simp only [Option.map_some, Option.some.injEq] at hv hb
    subst hv hb
    exact get_sound h rfl (hx x (by simpa using Array.mem_of_getElem? hxi))
theorem callE_sound {a : Act} {o : Oper} {K : Act → World → Prop} {QQ : Exit → Act → World → Prop} {d : Nat} {f : FuncId} {vals : Array Value} {as : List AV} {e : Eff} (hds : a.defers = []) (h : Inv P N C G ν w a.tmps st) (hdst : o.dst = some d) (hd : d < N)
    (hop : execOp a.eval o = callFunc f vals) (hl : vals.size = as.length) (hv : ∀ (i : Nat) v b, vals[i]? = some v → as[i]? = some b → RN G ν v b) (hc : CallE P st d f as e) (hK : Cont P N C K (st.app e)) : o.wp P a w K QQ :=
  hc.elim (fun hc => callP_sound hds h hdst hd hop hl hv hc hK) (fun hc => callH_sound hds h hdst hd hop hl hv hc hK)
theorem read_sound {a : Act} {o : Oper} {K : Act → World → Prop} {QQ : Exit → Act → World → Prop} {d : Nat} (hds : a.defers = []) (h : Inv P N C G ν w a.tmps st) (hdst : o.dst = some d) (hd : d < N) (hc : evc P st true o.op)
    (hK : Cont P N C K (st.app ⟨some d, ev P st o.op, [], []⟩)) : o.wp P a w K QQ := by
  obtain ⟨v, hrun, hv⟩ := ev_sound h hc
  refine wp_val hrun ?_
  rw [hdst]
  exact hK (a.put (some d) v) w G ν hds (h.putv hd (.x hv))
theorem step_sound {a : Act} {o : Oper} {K : Act → World → Prop} {QQ : Exit → Act → World → Prop} {e : Eff} (hds : a.defers = []) (h : Inv P N C G ν w a.tmps st) (hs : stepV P N o.dst o.op (· = e) st) (hK : Cont P N C K (st.app e)) : o.wp P a w K QQ := by
  have hop : ∀ op dst, o.op = op → o.dst = dst → stepV P N dst op (· = e) st → o.wp P a w K QQ := by
    intro op dst hop hdst hs
    unfold stepV at hs
    split at hs
    · obtain ⟨d, rfl, h1, h2, cs, h3, rfl⟩ := onD_some hs
      exact alloc_sound hds h hdst hop h1 h2 h3 hK
    · obtain ⟨d, rfl, h1, h2, h3, h4, rfl⟩ := onD_some hs
      exact box_sound hds h hdst hop h1 h2 h3 h4 hK
    · obtain ⟨rfl, h1, h2, h3, h4, h5, h6⟩ := hs
      exact store_sound hds h hdst hop h1 h2 h3 h4 h5 h6 hK
    · next xs ats =>
      split at hs
      · next s x T T' hx ha =>
        obtain ⟨rfl, hs⟩ := hs
        obtain ⟨d, rfl, h1, h2, h3, h4, E, es, ns, es2, h5, h6, h7, h8, rfl⟩ := onD_some hs
        have hxs : xs = #[s, x] := by
          have := congrArg List.toArray hx
          simpa using this
        have hats : ats = #[T, T] := by
          have := congrArg List.toArray ha
          simpa using this
        subst hxs hats
        exact append_sound hds h hdst hop h1 h2 h5 h3 h4 h6 h7 h8 hK
      · exact hs.elim
    · next f xs ats =>
      obtain ⟨d, rfl, h1, h2, e', h3, rfl⟩ := onD_some hs
      have e1 : execOp a.eval o = callFunc f (xs.map a.eval) := by
        obtain ⟨dst, op, ty, pos, aft, gd⟩ := o
        simp only at hop
        subst hop
        have e : execOp a.eval { dst := dst, op := .call { callee := .value (.func f), args := xs, argTypes := ats }, type := ty, pos := pos, after := aft, guard := gd } = callFunc f (#[] ++ xs.map a.eval ++ #[]) := rfl
        rw [e]
        simp
      exact callE_sound hds h hdst h1 e1 (by simp) (vals_of h h2) h3 hK
    · next t xs ats =>
      obtain ⟨d, rfl, h1, h2, f, cs, h3, e', h4, rfl⟩ := onD_some hs
      have hv := h.vals t
      obtain ⟨vs, hx, hl, hc⟩ : ∃ vs : Array Value, a.tmps.getD t undef = .func (.func f) #[] vs ∧ vs.size = cs.length ∧ ∀ (j : Nat) v b, vs[j]? = some v → cs[j]? = some b → RN G ν v b := by
        generalize a.tmps.getD t undef = x at hv
        unfold slotF at h3
        split at h3
        · next f' cs' e0 =>
          cases h3
          rw [e0] at hv
          cases hv with
          | x h => exact h.fncI
        · next f' fs cs' e0 =>
          split at h3
          · next hz =>
            cases h3
            rw [e0] at hv
            simp only [Bool.and_eq_true, beq_iff_eq] at hz
            have hfs : fs = #[] := Array.eq_empty_of_size_eq_zero hz.1
            have hcs : cs' = #[] := Array.eq_empty_of_size_eq_zero hz.2
            subst hfs hcs
            cases hv with
            | x h => exact ⟨#[], h.immI.1, rfl, fun j v b hj => by simp at hj⟩
          · cases h3
        · cases h3
      have e1 : execOp a.eval o = callFunc f (xs.map a.eval ++ vs) := by
        obtain ⟨dst, op, ty, pos, aft, gd⟩ := o
        simp only at hop
        subst hop
        have e0 : a.eval (.tmp t) = .func (.func f) #[] vs := hx
        have e : execOp a.eval { dst := dst, op := .call { callee := .value (.tmp t), args := xs, argTypes := ats }, type := ty, pos := pos, after := aft, guard := gd } = (do let d ← Deferred.ofValue (a.eval (.tmp t)) (xs.map a.eval); invoke d.target d.args) := rfl
        rw [e, e0]
        have e2 : (do let d ← Deferred.ofValue (.func (.func f) #[] vs) (xs.map a.eval); invoke d.target d.args : Sem Next) = callFunc f (#[] ++ xs.map a.eval ++ vs) := rfl
        rw [e2]
        simp
      refine callE_sound hds h hdst h1 e1 (by simp [hl]) (fun i v b hv hb => ?_) h4 hK
      by_cases hi : i < xs.size
      · rw [Array.getElem?_append_left (by simpa using hi)] at hv
        rw [List.getElem?_append_left (by simpa using hi)] at hb
        exact vals_of h h2 i v b hv hb
      · rw [Array.getElem?_append_right (by simp; omega)] at hv
        rw [List.getElem?_append_right (by simp; omega)] at hb
        simp only [Array.size_map, List.length_map, Array.length_toList] at hv hb
        exact hc _ v b hv hb
    · obtain ⟨d, rfl, h1, h2, E, ns, h3, h4, h5, h6, h7, h8, h9, rfl⟩ := onD_some hs
      exact row_sound hds h hdst hop h1 h2 h3 h4 h5 h6 h7 h8 h9 hK
    · obtain ⟨d, rfl, h1, h2, h3, h4, E, k, z, h5, h6, h7, h8, h9, h10, rfl⟩ := onD_some hs
      exact make_sound hds h hdst hop h1 h2 h3 h4 h5 h6 h7 h8 h9 h10 hK
    · obtain ⟨d, rfl, h1, h2, rfl⟩ := onD_some hs
      exact read_sound hds h hdst h1 (by rw [hop]; exact h2) (by rw [hop]; exact hK)
  exact hop o.op o.dst rfl rfl hs
theorem yA_sound {a : Act} (h : Inv P N C G ν w a.tmps st) {ops : Array Oper} {ds : List (Option Nat)} (hds : ds = ops.toList.map (·.dst)) {j : Nat} {want y : Bool} (hy : yA ds st j want = some y) : (yielded ops a.tmps j == some want) = y := by
  unfold yA at hy
  have hd : ds.getD j none = (ops[j]?).bind (·.dst) := by
    subst hds
    rw [List.getD_eq_getElem?_getD, List.getElem?_map, Array.getElem?_toList]
    cases ops[j]? <;> rfl
  rw [hd] at hy
  unfold yielded
  split at hy
  · cases hy
  · next t ht =>
    rw [ht]
    have hv := h.vals t
    have hget : ∀ b, a.tmps.getD t undef = .bool b → (some t).bind (a.tmps[·]?) = some (.bool b) := by
      intro b hb
      simp only [Option.bind_some]
      rw [Array.getD_eq_getD_getElem?] at hb
      cases hq : a.tmps[t]? with
      | none => rw [hq] at hb; cases hb
      | some u => rw [hq] at hb; simpa using hb
    have hund : a.tmps.getD t undef = undef → (some t).bind (a.tmps[·]?) = none ∨ (some t).bind (a.tmps[·]?) = some undef := by
      intro hb
      simp only [Option.bind_some]
      rw [Array.getD_eq_getD_getElem?] at hb
      cases hq : a.tmps[t]? with
      | none => exact .inl rfl
      | some u =>
        rw [hq] at hb
        have : u = undef := by simpa using hb
        subst this
        exact .inr rfl
    unfold yC at hy
    split at hy
    · next b hb =>
      rw [hb] at hv
      cases hv with
      | x h =>
        rw [hget b h.immI.1]
        injection hy with hy
    · next y' b hb =>
      rw [hb] at hv
      injection hy with hy
      cases hv with
      | x h => exact h.cndI.elim
      | cnd _ _ _ h1 h2 =>
        cases hyy : y' with
        | true =>
          rw [hget b (h1 hyy).immI.1, ← hy, hyy]
          cases b <;> cases want <;> rfl
        | false =>
          rcases hund (h2 hyy) with hn | hn
          · rw [← hy, hyy, hn]
            rfl
          · rw [← hy, hyy, hn]
            rfl
    · cases hy
theorem op_sound {a : Act} {o : Oper} {ops : Array Oper} {ds : List (Option Nat)} (hds : ds = ops.toList.map (·.dst)) {K : Act → World → Prop} {QQ : Exit → Act → World → Prop} {e : Eff} (hd : a.defers = []) (h : Inv P N C G ν w a.tmps st) (hs : opV P N ds o (· = e) st)
    (hK : Cont P N C K (st.app e)) : (if Region.wanted o (yielded ops a.tmps) then o.wp P a w K QQ else K (a.put o.dst undef) w) := by
  unfold opV at hs
  split at hs
  · next hg =>
    rw [if_pos (by simp [Region.wanted, hg])]
    exact step_sound hd h hs hK
  · next j want hg =>
    obtain ⟨y, hy, hs⟩ := hs
    obtain ⟨d, hdst, hdN, hs⟩ := onD_some hs
    have hw : Region.wanted o (yielded ops a.tmps) = y := by
      unfold Region.wanted
      rw [hg]
      exact yA_sound h hds hy
    rw [hw]
    have unw : ∀ b : AV, y = false → e = ⟨some d, .cnd y b, [], []⟩ → K (a.put o.dst undef) w := by
      intro b hyf he
      subst he
      rw [hdst]
      exact hK (a.put (some d) undef) w G ν hd (h.putv hdN (.cnd y _ b (fun e => by rw [hyf] at e; cases e) (fun _ => rfl)))
    split at hs
    · next f xs hcall =>
      obtain ⟨h1, h2, b, rt, h3, h4, h5⟩ := hs
      cases hyb : y with
      | false =>
        rw [if_neg (by simp)]
        exact unw b hyb h5.symm
      | true =>
        rw [if_pos rfl]
        obtain ⟨xs', ats, hop, rfl⟩ : ∃ xs' ats, o.op = .call { callee := .value (.func f), args := xs', argTypes := ats } ∧ xs = xs'.toList := by
          unfold isGoCall at hcall
          split at hcall
          · next f' xs' ats e => cases hcall; exact ⟨xs', ats, e, rfl⟩
          · cases hcall
        have hf := h3 hyb
        have e1 : execOp a.eval o = callFunc f (xs'.map a.eval) := by
          obtain ⟨dst, op, ty, pos, aft, gd⟩ := o
          simp only at hop
          subst hop
          have e : execOp a.eval { dst := dst, op := .call { callee := .value (.func f), args := xs', argTypes := ats }, type := ty, pos := pos, after := aft, guard := gd } = callFunc f (#[] ++ xs'.map a.eval ++ #[]) := rfl
          rw [e]
          simp
        have hok : ∀ x ∈ xs'.toList, st.ok true x := fun x hx => by rw [← hyb]; exact h1 x hx
        refine callP_sound hd h hdst hdN e1 (by simp) (vals_of h hok) (e := ⟨some d, b, [], []⟩) ⟨[], b, rt, trivial, ?_, ?_, h4, rfl⟩ fun a' w' G' ν' k1 k2 => ?_
        · have : (xs'.toList.map st.get).map (frzF st.blk []) = xs'.toList.map st.get := by simp [frzF]
          rw [this]; exact h2
        · have : (xs'.toList.map st.get).map (frzF st.blk []) = xs'.toList.map st.get := by simp [frzF]
          rw [this]; exact hf
        · rw [hyb] at h5
          refine hK a' w' G' ν' k1 ?_
          rw [← h5]
          refine ⟨k2.size, k2.cells, fun t => ?_, k2.blks, k2.inj, k2.news, k2.own, k2.fr, k2.kpt⟩
          have hv := k2.vals t
          show RV2 G' ν' _ (if t = d then _ else _)
          have hv : RV2 G' ν' (a'.tmps.getD t undef) (if t = d then b else st.val t) := hv
          by_cases e : t = d
          · rw [if_pos e] at hv ⊢
            refine .cnd true _ b (fun _ => ?_) (fun e => by cases e)
            cases hv with
            | x h => exact h
            | cnd => cases h4
            | dead => cases h4
          · rw [if_neg e] at hv ⊢
            exact hv
    · obtain ⟨h1, h4⟩ := hs
      cases hyb : y with
      | false =>
        rw [if_neg (by simp)]
        exact unw _ hyb h4.symm
      | true =>
        rw [if_pos rfl]
        rw [hyb] at h1
        obtain ⟨v, hrun, hv⟩ := ev_sound h h1
        refine wp_val hrun ?_
        rw [hdst]
        refine hK (a.put (some d) v) w G ν hd ?_
        rw [← h4]
        exact h.putv hdN (.cnd y v _ (fun _ => hv) (fun e => by rw [hyb] at e; cases e))
def opK (P : Program) (N : Nat) (ds : List (Option Nat)) (o : Oper) (R : Eff → Prop) (st : St) : Prop := match o.guard with
  | none => False
  | some (j, want) => ∃ y, yA ds st j want = some y ∧ (y = true → stepV P N o.dst o.op R st) ∧ (y = false → (∀ d, o.dst = some d → d < N) ∧ R ⟨o.dst, .dead, [], []⟩)
theorem opK_mono {ds : List (Option Nat)} {o : Oper} {R R' : Eff → Prop} {st : St} (h : opK P N ds o R st) (hr : ∀ e, R e → R' e) : opK P N ds o R' st := by
  unfold opK at h ⊢
  split at h
  · exact h.elim
  · obtain ⟨y, h1, h2, h3⟩ := h
    exact ⟨y, h1, fun e => stepV_mono (h2 e) hr, fun e => ⟨(h3 e).1, hr _ (h3 e).2⟩⟩
def wR (P : Program) (N : Nat) (ds : List (Option Nat)) : List Oper → (St → Prop) → St → Prop
  | [], Q, st => Q st
  | o :: rest, Q, st => opV P N ds o (fun e => wR P N ds rest Q (st.app e)) st ∨ opK P N ds o (fun e => wR P N ds rest Q (st.app e)) st
theorem wR_mono {ds : List (Option Nat)} {Q Q' : St → Prop} (hq : ∀ s, Q s → Q' s) : ∀ (l : List Oper) {st : St}, wR P N ds l Q st → wR P N ds l Q' st
  | [], _, h => hq _ h
  | o :: l, st, h => h.imp (fun h => opV_mono (o := o) h fun e he => wR_mono hq l he) fun h => opK_mono (o := o) h fun e he => wR_mono hq l he
theorem wR_sound {ops : Array Oper} {ds : List (Option Nat)} (hds : ds = ops.toList.map (·.dst)) {QQ : Exit → Act → World → Prop} {Q : St → Prop} (hQ : ∀ s, Q s → Cont P N C (QQ .normal) s) : ∀ (l : List Oper) {G : Gh} {ν : Nu} {w : World} {a : Act} {st : St}, a.defers = [] → Inv P N C G ν w a.tmps st → wR P N ds l Q st → wpList P ops QQ l a w
  | [], G, ν, w, a, st, hd, h, hs => hQ st hs a w G ν hd h
  | o :: rest, G, ν, w, a, st, hd, h, hs => by
    rcases hs with hs | hs
    · obtain ⟨e, h1, h2⟩ := opV_one hs
      refine wpList_step fun K hKK => ?_
      exact op_sound hds hd h h2 fun a' w' G' ν' k1 k2 => hKK _ _ (wR_sound hds hQ rest k1 k2 h1)
    · unfold opK at hs
      split at hs
      · exact hs.elim
      · next j want hg =>
        obtain ⟨y, hy, h1, h2⟩ := hs
        have hw : Region.wanted o (yielded ops a.tmps) = y := by
          unfold Region.wanted
          rw [hg]
          exact yA_sound h hds hy
        refine wpList_step fun K hKK => ?_
        rw [hw]
        cases y with
        | true =>
          obtain ⟨e, k1, k2⟩ := stepV_one (h1 rfl)
          rw [if_pos rfl]
          exact step_sound hd h k2 fun a' w' G' ν' q1 q2 => hKK _ _ (wR_sound hds hQ rest q1 q2 k1)
        | false =>
          obtain ⟨k1, k2⟩ := h2 rfl
          rw [if_neg (by simp)]
          refine hKK _ _ (wR_sound hds hQ rest (G := G) (ν := ν) (st := st.app ⟨o.dst, .dead, [], []⟩) (by cases o.dst <;> exact hd) ?_ k2)
          cases hdst : o.dst with
          | none => exact h
          | some d => exact h.putv (k1 d hdst) (.dead _)
end
end Go.Proofs.YtldnkeackphilaaGreatDoor.X
namespace Go.Proofs.YtldnkeackphilaaGreatDoor.X
open Go.RowKit

def rootsOf : List (Nat × List Nat) → Nat → List Nat
  | [], _ => []
  | p :: l, t => if t = p.1 then p.2 else rootsOf l t
def newN : Option Nat → List Nat
  | some d => [d, d + 10000, d + 20000, d + 30000]
  | none => []
def namesO (rts : List (Nat × List Nat)) (ds : List (Option Nat)) (o : Oper) : List Nat := (opnds ds o).flatMap (rootsOf rts) ++ newN o.dst
def wrN (rts : List (Nat × List Nat)) (ds : List (Option Nat)) (o : Oper) : List Nat := match o.op with
  | .alloc _ => newN o.dst
  | .box _ _ => newN o.dst
  | .store _ _ _ => namesO rts ds o
  | .buildSlice _ _ _ => namesO rts ds o
  | .makeSlice _ _ _ => newN o.dst
  | .call { callee := .builtin .append, args := xs, argTypes := _ } => ((xs.toList.take 1).flatMap opT).flatMap (rootsOf rts) ++ newN o.dst
  | .call { callee := .value _, args := _, argTypes := _ } => namesO rts ds o
  | _ => []
structure EffIn (rts : List (Nat × List Nat)) (ds : List (Option Nat)) (o : Oper) (e : Eff) : Prop where
  dst : e.dst = o.dst
  bs : ∀ p ∈ e.bs, p.1 ∈ wrN rts ds o
  us : ∀ n ∈ e.us, n ∈ wrN rts ds o
theorem wr_names {rts : List (Nat × List Nat)} {ds : List (Option Nat)} {o : Oper} {n : Nat} (h : n ∈ wrN rts ds o) : n ∈ namesO rts ds o := by
  obtain ⟨dst, op, ty, pos, aft, gd⟩ := o
  unfold wrN at h
  split at h
  · exact List.mem_append_right _ h
  · exact List.mem_append_right _ h
  · exact h
  · exact h
  · exact List.mem_append_right _ h
  · next xs ats hop =>
    rcases List.mem_append.1 h with h | h
    · refine List.mem_append_left _ ?_
      rw [List.mem_flatMap] at h ⊢
      obtain ⟨t, h1, h2⟩ := h
      refine ⟨t, List.mem_append_left _ ?_, h2⟩
      rw [List.mem_flatMap] at h1 ⊢
      obtain ⟨x, h3, h4⟩ := h1
      exact ⟨x, by simp only at hop; rw [hop]; simp only [Op.operands, Call.operands]; simpa using List.mem_of_mem_take h3, h4⟩
    · exact List.mem_append_right _ h
  · exact h
  · cases h
def rdOk (rts : List (Nat × List Nat)) (ds : List (Option Nat)) (o : Oper) (st : St) : Prop := ∀ t ∈ opnds ds o, ∀ n ∈ refsA (st.val t), n ∈ rootsOf rts t
structure Agr (rts : List (Nat × List Nat)) (ds : List (Option Nat)) (o : Oper) (s s' : St) : Prop where
  val : ∀ t ∈ opnds ds o, s.val t = s'.val t
  blk : ∀ n ∈ namesO rts ds o, s.blk n = s'.blk n
  usd : ∀ n ∈ namesO rts ds o, s.usd n = s'.usd n
section
variable {P : Program} {N : Nat} {rts : List (Nat × List Nat)} {ds : List (Option Nat)} {o : Oper} {s s' : St}
theorem Agr.symm (h : Agr rts ds o s s') : Agr rts ds o s' s := ⟨fun t ht => (h.val t ht).symm, fun n hn => (h.blk n hn).symm, fun n hn => (h.usd n hn).symm⟩
theorem get_congr {x : Operand} (h : ∀ t ∈ opT x, s.val t = s'.val t) : s.get x = s'.get x ∧ ∀ y, s.ok y x = s'.ok y x := by
  cases x with
  | tmp t =>
    have := h t (by simp [opT])
    exact ⟨by simp only [St.get, this], fun y => by simp only [St.ok, this]⟩
  | _ => exact ⟨rfl, fun _ => rfl⟩
theorem Agr.get (h : Agr rts ds o s s') {x : Operand} (hx : x ∈ o.op.operands.toList) : s.get x = s'.get x ∧ ∀ y, s.ok y x = s'.ok y x :=
  get_congr fun t ht => h.val t (List.mem_append_left _ (List.mem_flatMap.2 ⟨x, hx, ht⟩))
theorem refs_unC (a : AV) : ∀ n ∈ refsA (unC' a), n ∈ refsA a := by
  intro n hn
  cases a <;> exact hn
theorem refs_const (v : Value) : refsA (constAX v) = [] := by
  have one : ∀ v, refsA (constX v) = [] := fun v => by unfold constX; split <;> rfl
  have lst : ∀ l : List Value, refsL (l.map constX) = [] := fun l => by
    induction l with
    | nil => rfl
    | cons v l ih => simp [refsL, one, ih]
  unfold constAX
  split
  · simp only [refsA, lst]
  · split <;> rfl
  · exact one v
theorem Agr.ref (h : Agr rts ds o s s') (hr : rdOk rts ds o s) {x : Operand} (hx : x ∈ o.op.operands.toList) {n : Nat} (hn : n ∈ refsA (s.get x)) : s.blk n = s'.blk n := by
  cases x with
  | tmp t =>
    have ht : t ∈ opnds ds o := List.mem_append_left _ (List.mem_flatMap.2 ⟨_, hx, by simp [opT]⟩)
    exact h.blk n (List.mem_append_left _ (List.mem_flatMap.2 ⟨t, ht, hr t ht n (refs_unC _ n hn)⟩))
  | const v => simp only [St.get, refs_const] at hn; cases hn
  | global g => simp only [St.get, refsA] at hn; cases hn
  | func f => simp only [St.get, refsA] at hn; cases hn
theorem fill_congr (pl : List (Nat × Nat)) : ∀ (l : List (Nat × Operand)) (cs : List AV), (∀ p ∈ l, s.get p.2 = s'.get p.2) → fillA s pl cs l = fillA s' pl cs l
  | [], _, _ => rfl
  | p :: l, cs, h => by simp only [fillA, h p (by simp)]; exact fill_congr pl l _ fun q hq => h q (by simp [hq])
theorem fillC_congr (y : Bool) (pl : List (Nat × Nat)) (n : Nat) : ∀ (l : List (Nat × Operand)), (∀ p ∈ l, s.get p.2 = s'.get p.2) → (∀ p ∈ l, s.ok y p.2 = s'.ok y p.2) → fillC s y pl n l = fillC s' y pl n l
  | [], _, _ => rfl
  | p :: l, h, k => by simp only [fillC, h p (by simp), k p (by simp), fillC_congr y pl n l (fun q hq => h q (by simp [hq])) (fun q hq => k q (by simp [hq]))]
theorem at_congr {a : AV} (h : ∀ n ∈ refsA a, s.blk n = s'.blk n) : s.at a = s'.at a ∧ ∀ y, s.atC y a = s'.atC y a := by
  cases a with
  | ref n off => have := h n (by simp [refsA]); simp only [St.at, St.atC, this, implies_true, and_self]
  | elt n i j => have := h n (by simp [refsA]); simp only [St.at, St.atC, this, implies_true, and_self]
  | _ => exact ⟨rfl, fun _ => rfl⟩
theorem ev_congr {op : Op} (hg : ∀ x ∈ op.operands.toList, s.get x = s'.get x) (hb : ∀ x ∈ op.operands.toList, ∀ n ∈ refsA (s.get x), s.blk n = s'.blk n) : ev P s op = ev P s' op := by
  cases op with
  | load T x =>
    have h1 := hg x (by simp [Op.operands])
    have h2 := (at_congr (hb x (by simp [Op.operands]))).1
    simp only [ev, h2, ← h1]
  | slice T x lo hi mx =>
    have h1 := hg x (by simp [Op.operands])
    have e1 : ∀ d, boundA s lo d = boundA s' lo d := fun d => by
      cases lo with
      | none => rfl
      | some z => simp only [boundA, hg z (by simp [Op.operands])]
    have e2 : ∀ d, boundA s hi d = boundA s' hi d := fun d => by
      cases hi with
      | none => rfl
      | some z => simp only [boundA, hg z (by simp [Op.operands])]
    simp only [ev, ← h1]
    cases s.get x with
    | imm v => cases v <;> simp only [sliceA, e1, e2]
    | _ => simp only [sliceA, e1, e2]
  | call c =>
    obtain ⟨callee, xs, ats⟩ := c
    cases callee with
    | builtin b =>
      cases hx : (xs[0]? : Option Operand) with
      | none => simp only [ev, hx]
      | some x =>
        have h1 := hg x (by simp [Op.operands, Call.operands, Array.mem_of_getElem? hx])
        cases b <;> simp only [ev, hx, h1]
    | _ => rfl
  | move x => simp only [ev, hg x (by simp [Op.operands])]
  | assign x => simp only [ev, hg x (by simp [Op.operands])]
  | pick c x y => simp only [ev, hg c (by simp [Op.operands]), hg x (by simp [Op.operands]), hg y (by simp [Op.operands])]
  | nilCheck x => simp only [ev, hg x (by simp [Op.operands])]
  | fieldAddr S x f => simp only [ev, hg x (by simp [Op.operands])]
  | field S x f => simp only [ev, hg x (by simp [Op.operands])]
  | indexAddr S x i => simp only [ev, hg x (by simp [Op.operands]), hg i (by simp [Op.operands])]
  | index S x i => simp only [ev, hg x (by simp [Op.operands]), hg i (by simp [Op.operands])]
  | binOp op T x y zT => simp only [ev, hg x (by simp [Op.operands]), hg y (by simp [Op.operands])]
  | unOp op T x => simp only [ev, hg x (by simp [Op.operands])]
  | convert a b x => simp only [ev, hg x (by simp [Op.operands])]
  | makeInterface T x => simp only [ev, hg x (by simp [Op.operands])]
  | extract x j => simp only [ev, hg x (by simp [Op.operands])]
  | typeAssert x a b c => simp only [ev, hg x (by simp [Op.operands])]
  | build T parts =>
    have h1 : ∀ p ∈ parts.toList, s.get p.2 = s'.get p.2 := fun p hp => hg p.2 (by simp [Op.operands]; exact ⟨p.1, by simpa using hp⟩)
    simp only [ev]
    cases zplP P T with
    | none => rfl
    | some z => simp only [bldA, fill_congr _ parts.toList _ h1]
  | makeFunc fn fs cs =>
    cases fn with
    | func f =>
      simp only [ev]
      congr 1
      exact List.map_congr_left fun x hx => hg x (by simp [Op.operands]; exact .inr (by simpa using hx))
    | _ => rfl
  | _ => rfl
theorem evc_congr {y : Bool} {op : Op} (hg : ∀ x ∈ op.operands.toList, s.get x = s'.get x) (hk : ∀ x ∈ op.operands.toList, ∀ y, s.ok y x = s'.ok y x) (hb : ∀ x ∈ op.operands.toList, ∀ n ∈ refsA (s.get x), s.blk n = s'.blk n) : evc P s y op = evc P s' y op := by
  cases op with
  | load T x =>
    have h1 := hg x (by simp [Op.operands])
    have h2 := at_congr (hb x (by simp [Op.operands]))
    simp only [evc, h2.1, h2.2, ← h1, hk x (by simp [Op.operands])]
  | slice T x lo hi mx =>
    have h1 := hg x (by simp [Op.operands])
    have h2 := hb x (by simp [Op.operands])
    have e1 : ∀ d, boundA s lo d = boundA s' lo d := fun d => by
      cases lo with
      | none => rfl
      | some z => simp only [boundA, hg z (by simp [Op.operands])]
    have e2 : ∀ d, boundA s hi d = boundA s' hi d := fun d => by
      cases hi with
      | none => rfl
      | some z => simp only [boundA, hg z (by simp [Op.operands])]
    have e3 : ∀ d, boundC s y lo d = boundC s' y lo d := fun d => by
      cases lo with
      | none => rfl
      | some z => simp only [boundC, hg z (by simp [Op.operands]), hk z (by simp [Op.operands])]
    have e4 : ∀ d, boundC s y hi d = boundC s' y hi d := fun d => by
      cases hi with
      | none => rfl
      | some z => simp only [boundC, hg z (by simp [Op.operands]), hk z (by simp [Op.operands])]
    simp only [evc, ← h1, hk x (by simp [Op.operands])]
    cases hx : s.get x with
    | imm v => cases v <;> simp only [sliceC, e1, e2, e3, e4]
    | rw n l len =>
      have := h2 n (by rw [hx]; simp [refsA])
      simp only [sliceC, e1, e2, e3, e4, this]
    | _ => simp only [sliceC, e1, e2, e3, e4]
  | call c =>
    obtain ⟨callee, xs, ats⟩ := c
    cases callee with
    | builtin b =>
      cases hx : (xs[0]? : Option Operand) with
      | none => simp only [evc, hx]
      | some x =>
        have hm : x ∈ (Op.call ⟨.builtin b, xs, ats⟩).operands.toList := by simp [Op.operands, Call.operands, Array.mem_of_getElem? hx]
        cases hT : (ats[0]? : Option TypeId) <;> cases b <;> simp only [evc, hx, hT, hg x hm, hk x hm]
    | _ => rfl
  | move x => simp only [evc, hk x (by simp [Op.operands])]
  | assign x => simp only [evc, hk x (by simp [Op.operands])]
  | pick c x z =>
    have h1 := hk x (by simp [Op.operands])
    have h2 := hk z (by simp [Op.operands])
    simp only [evc, hg c (by simp [Op.operands]), hg x (by simp [Op.operands]), hg z (by simp [Op.operands]), hk c (by simp [Op.operands])]
    have : ∀ a b c, pickC s y x z a b c = pickC s' y x z a b c := fun a b c => by
      unfold pickC
      split <;> simp only [h1, h2]
    rw [this]
  | nilCheck x => simp only [evc, hg x (by simp [Op.operands]), hk x (by simp [Op.operands])]
  | fieldAddr S x f => simp only [evc, hg x (by simp [Op.operands]), hk x (by simp [Op.operands])]
  | field S x f => simp only [evc, hg x (by simp [Op.operands]), hk x (by simp [Op.operands])]
  | indexAddr S x i =>
    have h2 := hb x (by simp [Op.operands])
    have h1 := hg x (by simp [Op.operands])
    simp only [evc, ← h1, hg i (by simp [Op.operands]), hk x (by simp [Op.operands]), hk i (by simp [Op.operands])]
    have : ∀ i e, idxC P s y i e (s.get x) = idxC P s' y i e (s.get x) := fun i e => by
      cases hx : s.get x with
      | rw n l len =>
        have := h2 n (by rw [hx]; simp [refsA])
        simp only [idxC, this]
      | _ => rfl
    simp only [this]
  | index S x i => simp only [evc, hg x (by simp [Op.operands]), hg i (by simp [Op.operands]), hk x (by simp [Op.operands]), hk i (by simp [Op.operands])]
  | binOp op T x z zT => simp only [evc, hg x (by simp [Op.operands]), hg z (by simp [Op.operands]), hk x (by simp [Op.operands]), hk z (by simp [Op.operands])]
  | unOp op T x => simp only [evc, hg x (by simp [Op.operands]), hk x (by simp [Op.operands])]
  | convert a b x => simp only [evc, hg x (by simp [Op.operands]), hk x (by simp [Op.operands])]
  | makeInterface T x => simp only [evc, hk x (by simp [Op.operands])]
  | extract x j => simp only [evc, hg x (by simp [Op.operands]), hk x (by simp [Op.operands])]
  | typeAssert x a b c => simp only [evc, hg x (by simp [Op.operands]), hk x (by simp [Op.operands])]
  | build T parts =>
    have h1 : ∀ p ∈ parts.toList, s.get p.2 = s'.get p.2 := fun p hp => hg p.2 (by simp [Op.operands]; exact ⟨p.1, by simpa using hp⟩)
    have h2 : ∀ p ∈ parts.toList, s.ok y p.2 = s'.ok y p.2 := fun p hp => hk p.2 (by simp [Op.operands]; exact ⟨p.1, by simpa using hp⟩) y
    simp only [evc]
    cases zplP P T with
    | none => rfl
    | some z => simp only [bldC, fillC_congr y _ _ parts.toList h1 h2]
  | makeFunc fn fs cs =>
    cases fn with
    | func f =>
      simp only [evc]
      refine congrArg _ ?_
      refine propext ⟨fun h x hx => ?_, fun h x hx => ?_⟩
      · rw [← hk x (by simp [Op.operands]; exact .inr (by simpa using hx))]; exact h x hx
      · rw [hk x (by simp [Op.operands]; exact .inr (by simpa using hx))]; exact h x hx
    | _ => rfl
  | _ => rfl
theorem frz_congr : ∀ (ns : List Nat) {blk blk' : Nat → Option Blk}, (∀ n ∈ ns, blk n = blk' n) → frzOk blk ns = frzOk blk' ns ∧ ∀ a, frzF blk ns a = frzF blk' ns a
  | [], _, _, _ => ⟨rfl, fun _ => rfl⟩
  | n :: ns, blk, blk', h => by
    have h0 := h n (by simp)
    have key : ∀ B, ∀ m ∈ ns, opnB n B blk m = opnB n B blk' m := fun B m hm => by simp only [opnB, h m (by simp [hm])]
    simp only [frzOk, frzF, ← h0]
    cases blk n with
    | none => exact ⟨rfl, fun _ => rfl⟩
    | some B =>
      obtain ⟨k1, k2⟩ := frz_congr ns (key (fixK B))
      simp only [k1, k2, implies_true, and_self]
end
end Go.Proofs.YtldnkeackphilaaGreatDoor.X
