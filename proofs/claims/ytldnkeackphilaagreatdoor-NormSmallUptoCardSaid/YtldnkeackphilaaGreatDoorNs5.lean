/- The calculus of values: lists of operations come to their weakest preconditions. -/
import Derived.Test.YtldnkeackphilaaGreatDoorNs4
set_option linter.unusedSimpArgs false
set_option linter.unusedVariables false
namespace Go.Proofs.YtldnkeackphilaaGreatDoor
open Go.RowKit

theorem step_sound {P : Program} {N : Nat} {L : List Nat} {G : Gh} {O : Om} {w : World} {a : Act} {st : St} {o : Oper} {K : Act → World → Prop} {QQ : Exit → Act → World → Prop} {Q : St → Prop} (hds : a.defers = []) (h : Rl P N G O w a.tmps st) (hs : stepW P N L o.dst o.op Q st) (hK : Cont P N G O w K Q) : o.wp P a w K QQ := by
  have hop : ∀ op, o.op = op → stepW P N L o.dst op Q st → o.wp P a w K QQ := by
    intro op hop hs
    unfold stepW stepV at hs
    split at hs
    · split at hs
      · next d z h1 h2 =>
        obtain ⟨h3, h4, h5⟩ := hs
        exact alloc_sound hds h h1 hop h3 h2 h4 h5 hK
      · exact hs.elim
    · split at hs
      · next d h1 =>
        obtain ⟨h3, h4, h5, h6, h7, h8⟩ := hs
        exact box_sound hds h h1 hop h3 h4 h5 h6 h7 h8 hK
      · exact hs.elim
    · obtain ⟨h1, h2, h3, h4, hs⟩ := hs
      split at hs
      · next r off hg =>
        split at hs
        · next T' cs hr =>
          obtain ⟨k1, k2, k3, k4, k5, k6⟩ := hs
          exact store_sound hds h k5 hop h1 h2 h3 h4 hg hr k1 k2 k3 k4 k6 hK
        · exact hs.elim
      · exact hs.elim
    · next xs ats =>
      split at hs
      · next ts x T T' d hx ha hd =>
        obtain ⟨rfl, h1, h2, hs⟩ := hs
        split at hs
        · next E es es2 e1 e2 e3 =>
          obtain ⟨k1, k2, k3, k4, k5, k6, k7, k8⟩ := hs
          have hxs : xs = #[.tmp ts, x] := by
            have := congrArg List.toArray hx
            simpa using this
          have hats : ats = #[T, T] := by
            have := congrArg List.toArray ha
            simpa using this
          subst hxs hats
          exact append_sound hds h hd hop h1 e1 h2 e2 e3 k1 k2 k3 k4 k5 k6 k7 k8 hK
        · exact hs.elim
      · exact hs.elim
    · next f xs ats =>
      split at hs
      · next d hd =>
        obtain ⟨h1, h2, h3, b, rt, h4, h5⟩ := hs
        exact call_sound hds h hd hop h1 (fun x hx => h2 x (by simpa using hx)) (fun x hx => h3 x (by simpa using hx)) h4 h5 hK
      · exact hs.elim
    · next T n parts =>
      split at hs
      · next d E hd hE =>
        obtain ⟨h1, h2, h3, h4, h5, h6, h7⟩ := hs
        exact row_sound hds h hd hop h1 hE (fun p hp => h2 p (by simpa using hp)) h3 h5 h6 h4 h7 hK
      · exact hs.elim
    · unfold readV at hs
      split at hs
      · next d hd =>
        obtain ⟨h1, h2, h3, h4, h5⟩ := hs
        exact read_sound (L := L) hds h hd h1 (by rw [hop]; exact h2) (by rw [hop]; exact h3) (by rw [hop]; exact h5) hK
      · exact hs.elim
  exact hop o.op rfl hs
theorem RV.cnd_inv {G : Gh} {O : Om} {w : World} {tm : Array Value} {vl : Nat → AV} {t : Nat} {v : Value} {y : Bool} {b : AV} (h : RV G O w tm vl t v (.cnd y b)) : (y = true → RV G O w tm vl t v b) ∧ (y = false → v = undef) := by
  cases h with
  | sh h => cases h
  | cnd y v A h1 h2 h3 => exact ⟨h1, h2⟩
theorem Rl.toCnd {P : Program} {N : Nat} {G : Gh} {O : Om} {w : World} {tm : Array Value} {st : St} {d : Nat} {b : AV} {rt : Nat → Option (Option TypeId)} (h : Rl P N G O w tm (st.put noSrc d b rt)) (hb : b.shared = true) : Rl P N G O w tm (st.put noSrc d (.cnd true b) noTok) := by
  have hbp : b.plain = true := by cases b <;> first | rfl | cases hb
  refine ⟨⟨h.size, h.cells, h.owned, fun t => ?_, fun t k E hE => ?_⟩, fun t k E hE => ?_⟩
  · have hv := h.vals t
    by_cases e : t = d
    · subst e
      rw [St.put_val_eq] at hv ⊢
      exact .cnd true _ b (fun _ => .sh (hv.rs hb)) (fun e => by cases e) hbp
    · rw [St.put_val_ne _ _ _ _ e] at hv ⊢
      generalize tm.getD t undef = x at hv ⊢
      generalize (st.val t).killR d = A at hv ⊢
      induction hv with
      | sh h => exact .sh h
      | box g T cs vs ho hg hh hl hc => exact .box g T cs vs ho hg hh hl hc
      | ref r off g hr hbx =>
        refine .ref r off g hr ?_
        by_cases e2 : r = d
        · obtain ⟨T, cs, hbx⟩ := hbx
          rw [e2, St.put_val_eq] at hbx
          rw [hbx] at hb
          cases hb
        · rw [St.put_val_ne _ _ _ _ e2] at hbx ⊢
          exact hbx
      | cnd y v a _ h2 h3 ih => exact .cnd y v a (fun hy => ih hy) h2 h3
      | dead => exact .dead _
  · by_cases e : t = d
    · subst e; simp [St.put, noTok] at hE
    · exact h.toks t k E (by simpa [St.put, e] using hE)
  · by_cases e : t = d
    · subst e; simp [St.put, noTok] at hE
    · have := h.comp t k E (by simpa [St.put, e] using hE)
      rw [St.put_val_ne _ _ _ _ e] at this ⊢
      exact this
theorem yA_sound {P : Program} {N : Nat} {G : Gh} {O : Om} {w : World} {a : Act} {st : St} (h : Rl P N G O w a.tmps st) {ops : Array Oper} {ds : List (Option Nat)} (hds : ds = ops.toList.map (·.dst)) {j : Nat} {want y : Bool} (hy : yA ds st j want = some y) : (yielded ops a.tmps j == some want) = y := by
  unfold yA at hy
  have hd : ds.getD j none = (ops[j]?).bind (·.dst) := by
    subst hds
    rw [List.getD_eq_getElem?_getD, List.getElem?_map, Array.getElem?_toList]
    cases ops[j]? <;> rfl
  rw [hd] at hy
  unfold yielded
  split at hy
  · cases hy
  · next t ht =>
    rw [ht]
    have hv := h.vals t
    have hget : ∀ b, a.tmps.getD t undef = .bool b → (some t).bind (a.tmps[·]?) = some (.bool b) := by
      intro b hb
      simp only [Option.bind_some]
      rw [Array.getD_eq_getD_getElem?] at hb
      cases hq : a.tmps[t]? with
      | none => rw [hq] at hb; cases hb
      | some u => rw [hq] at hb; simpa using hb
    have hund : a.tmps.getD t undef = undef → (some t).bind (a.tmps[·]?) = none ∨ (some t).bind (a.tmps[·]?) = some undef := by
      intro hb
      simp only [Option.bind_some]
      rw [Array.getD_eq_getD_getElem?] at hb
      cases hq : a.tmps[t]? with
      | none => exact .inl rfl
      | some u =>
        rw [hq] at hb
        have : u = undef := by simpa using hb
        subst this
        exact .inr rfl
    split at hy
    · next b hb =>
      rw [hb] at hv
      have := (hv.rx rfl).imm.1
      rw [hget b this]
      injection hy with hy
    · next y' b hb =>
      rw [hb] at hv
      injection hy with hy
      obtain ⟨h1, h2⟩ := hv.cnd_inv
      cases hyy : y' with
      | true =>
        have := ((h1 hyy).rx rfl).imm.1
        rw [hget b this, ← hy, hyy]
        cases b <;> cases want <;> rfl
      | false =>
        rcases hund (h2 hyy) with hn | hn
        · rw [← hy, hyy, hn]
          rfl
        · rw [← hy, hyy, hn]
          rfl
    · cases hy
theorem resO_guard {st : St} {o : Oper} {g : Nat × Bool} (h : o.guard = some g) : resO st o = o := by
  unfold resO
  rw [h]
theorem resO_wp {P : Program} {N : Nat} {G : Gh} {O : Om} {w : World} {a : Act} {st : St} (h : Rl P N G O w a.tmps st) (o : Oper) (K : Act → World → Prop) (QQ : Exit → Act → World → Prop) (hw : (resO st o).wp P a w K QQ) : o.wp P a w K QQ := by
  unfold resO at hw
  split at hw
  · next t xs ats hg hop =>
    split at hw
    · next f fs cs hv =>
      split at hw
      · next hz =>
        simp only [Bool.and_eq_true, beq_iff_eq] at hz
        have hval := h.vals t
        rw [hv] at hval
        have hx : a.tmps.getD t undef = .func (.func f) fs cs := (hval.rx rfl).imm.1
        have hfs : fs = #[] := Array.eq_empty_of_size_eq_zero hz.1
        have hcs : cs = #[] := Array.eq_empty_of_size_eq_zero hz.2
        subst hfs hcs
        have e1 : a.eval (.tmp t) = a.eval (.func f) := hx
        obtain ⟨dst, op, ty, pos, aft, gd⟩ := o
        simp only at hop
        subst hop
        unfold Oper.wp at hw ⊢
        have e2 : execOp a.eval ⟨dst, .call ⟨.value (.tmp t), xs, ats⟩, ty, pos, aft, gd⟩ = execOp a.eval ⟨dst, .call ⟨.value (.func f), xs, ats⟩, ty, pos, aft, gd⟩ := by
          simp only [execOp, resolve, e1]
        rw [e2]
        exact hw
      · exact hw
    · exact hw
  · exact hw
theorem resO_same {st : St} {o : Oper} : (resO st o).guard = o.guard ∧ (resO st o).dst = o.dst := by
  unfold resO
  split
  · split
    · split <;> exact ⟨rfl, rfl⟩
    · exact ⟨rfl, rfl⟩
  · exact ⟨rfl, rfl⟩
theorem frzT_sound {P : Program} {N : Nat} {G : Gh} {O : Om} {w : World} {tm : Array Value} {st : St} (h : Rl P N G O w tm st) (t : Nat) : ∃ G', Rl P N G' O w tm (frzT st t) ∧ Fr G O w G' O w := by
  unfold frzT
  split
  · next T cs e => exact h.freeze e
  · exact ⟨G, h, .refl _ _ _⟩
theorem frzL_sound {P : Program} {N : Nat} {O : Om} {w : World} {tm : Array Value} : ∀ (l : List Operand) {G : Gh} {st : St}, Rl P N G O w tm st → ∃ G', Rl P N G' O w tm (frzL st l) ∧ Fr G O w G' O w
  | [], G, st, h => ⟨G, h, .refl _ _ _⟩
  | .tmp t :: l, G, st, h => by
    obtain ⟨G1, h1, f1⟩ := frzT_sound h t
    obtain ⟨G2, h2, f2⟩ := frzL_sound l h1
    exact ⟨G2, h2, f1.trans f2⟩
  | .const _ :: l, G, st, h => frzL_sound l h
  | .global _ :: l, G, st, h => frzL_sound l h
  | .func _ :: l, G, st, h => frzL_sound l h
theorem wR_sound {P : Program} {N : Nat} {L : List Nat} {ops : Array Oper} {ds : List (Option Nat)} (hds : ds = ops.toList.map (·.dst)) {QQ : Exit → Act → World → Prop} {Q : St → Prop} : ∀ (l : List Oper) {G : Gh} {O : Om} {w : World} {a : Act} {st : St}, a.defers = [] → Rl P N G O w a.tmps st → wR P N L ds l Q st → Cont P N G O w (QQ .normal) Q → wpList P ops QQ l a w
  | [], G, O, w, a, st, hd, h, hs, hK => hK a w G O st hd h (.refl _ _ _) hs
  | o :: rest, G0, O, w, a, st0, hd, h0, hs, hK0 => by
    obtain ⟨G, h, hf0⟩ := frzL_sound (givenL o.op) h0
    have hK : Cont P N G O w (QQ .normal) Q := fun a2 w2 G2 O2 st2 k1 k2 k3 k4 => hK0 a2 w2 G2 O2 st2 k1 k2 (hf0.trans k3) k4
    unfold wR at hs
    generalize frzL st0 (givenL o.op) = st at h hs
    have hplain : o.guard = none → wpList P ops QQ (o :: rest) a w := fun hg => by
      have hg' : (resO st o).guard = none := by rw [resO_same.1]; exact hg
      unfold opV at hs
      rw [hg'] at hs
      refine wpList_plain hg fun K hKK => resO_wp h o K QQ ?_
      exact step_sound hd h hs fun a' w' G' O' st' h1 h2 h3 h4 => hKK _ _ (wR_sound hds rest h1 h2 h4 fun a2 w2 G2 O2 st2 k1 k2 k3 k4 => hK a2 w2 G2 O2 st2 k1 k2 (h3.trans k3) k4)
    by_cases hg0 : o.guard = none
    · exact hplain hg0
    obtain ⟨gg, hgg⟩ := Option.ne_none_iff_exists'.1 hg0
    rw [resO_guard hgg] at hs
    unfold opV at hs
    have next : ∀ (a' : Act) w' G' O' st', a'.defers = [] → Rl P N G' O' w' a'.tmps st' → Fr G O w G' O' w' → wR P N L ds rest Q st' → wpList P ops QQ rest a' w' :=
      fun a' w' G' O' st' h1 h2 h3 h4 => wR_sound hds rest h1 h2 h4 fun a2 w2 G2 O2 st2 k1 k2 k3 k4 => hK a2 w2 G2 O2 st2 k1 k2 (h3.trans k3) k4
    split at hs
    · next hg =>
      refine wpList_plain hg fun K hKK => ?_
      exact step_sound hd h hs fun a' w' G' O' st' h1 h2 h3 h4 => hKK _ _ (next a' w' G' O' st' h1 h2 h3 h4)
    · next j want hg =>
      split at hs
      · next y d hy hdst =>
        obtain ⟨hdN, hs⟩ := hs
        have hw : Region.wanted o (yielded ops a.tmps) = y := by
          unfold Region.wanted
          rw [hg]
          exact yA_sound h hds hy
        refine wpList_step fun K hKK => ?_
        rw [hw]
        have hd' : d < a.tmps.size := by rw [h.size]; exact hdN
        have unw : ∀ b : AV, y = false → b.plain = true → wR P N L ds rest Q (st.put noSrc d (.cnd y b) noTok) → K (a.put o.dst undef) w := by
          intro b hyf hb hq
          rw [hdst]
          exact hKK _ _ (next (a.put (some d) undef) w G O _ hd (h.pure hdN (.cnd y _ b (fun e => by rw [hyf] at e; cases e) (fun _ => rfl) hb)) (.refl _ _ _) hq)
        split at hs
        · next f xs hcall =>
          obtain ⟨h1, h2, b, rt, h3, h4, h5⟩ := hs
          cases hyb : y with
          | false =>
            rw [if_neg (by simp)]
            exact unw b hyb (by cases b <;> first | rfl | cases h4) h5
          | true =>
            rw [if_pos rfl]
            obtain ⟨xs', ats, hop, rfl⟩ : ∃ xs' ats, o.op = .call { callee := .value (.func f), args := xs', argTypes := ats } ∧ xs = xs'.toList := by
              unfold isGoCall at hcall
              split at hcall
              · next f' xs' ats e => cases hcall; exact ⟨xs', ats, e, rfl⟩
              · cases hcall
            have hf := h3 hyb
            have hp : b.plain = true := by cases b <;> first | rfl | cases h4
            refine call_sound (Q := fun st' => st' = st.put noSrc d b rt) hd h hdst hop hdN (fun x hx => by rw [← hyb]; exact h1 x (by simpa using hx)) (fun x hx => h2 x (by simpa using hx)) hf rfl fun a' w' G' O' st' k1 k2 k3 k4 => ?_
            subst k4
            rw [hyb] at h5
            exact hKK _ _ (next a' w' G' O' _ k1 (k2.toCnd h4) k3 h5)
        · obtain ⟨h1, h2, h3, h4⟩ := hs
          cases hyb : y with
          | false =>
            rw [if_neg (by simp)]
            exact unw _ hyb h3 h4
          | true =>
            rw [if_pos rfl]
            rw [hyb] at h1
            obtain ⟨v, hrun, hv⟩ := ev_sound h h1
            refine wp_val hrun ?_
            rw [hdst]
            refine hKK _ _ (next (a.put (some d) v) w G O _ hd (h.pure hdN (.cnd y v _ (fun _ => ?_) (fun e => by rw [hyb] at e; cases e) h3)) (.refl _ _ _) h4)
            rcases hv with hv | ⟨r, off, g, T, cs, e1, rfl, e2, e3⟩
            · exact .sh hv
            · rw [e1] at h2 ⊢
              have hne : r ≠ d := by simpa [AV.rootNe] using h2
              exact .ref r off g (by rw [getD_set_ne' hne]; exact e2) ⟨T, cs, by rw [St.put_val_ne _ _ _ _ hne, e3]; rfl⟩
      · exact hs.elim
end Go.Proofs.YtldnkeackphilaaGreatDoor
/- The calculus of values: what an operation does to a state, as a thing of its own. -/
namespace Go.Proofs.YtldnkeackphilaaGreatDoor
open Go.RowKit

theorem stepV_one {P : Program} {N : Nat} {L : List Nat} {dst : Option Nat} {op : Op} {R : Eff → Prop} {st : St} (h : stepV P N L dst op R st) : ∃ e, R e ∧ stepV P N L dst op (· = e) st := by
  unfold stepV at h
  split at h
  · split at h
    · next e1 =>
      obtain ⟨h1, h2, h3⟩ := h
      exact ⟨_, h3, by simp only [stepV, e1]; exact ⟨h1, h2, trivial⟩⟩
    · exact h.elim
  · split at h
    · obtain ⟨h1, h2, h3, h4, h5, h6⟩ := h
      exact ⟨_, h6, by simp only [stepV]; exact ⟨h1, h2, h3, h4, h5, trivial⟩⟩
    · exact h.elim
  · obtain ⟨h1, h2, h3, h4, h⟩ := h
    split at h
    · next r off e1 =>
      split at h
      · next T' cs e2 =>
        obtain ⟨k1, k2, k3, k4, k5, k6⟩ := h
        exact ⟨_, k6, by simp only [stepV, e1, e2]; exact ⟨h1, h2, h3, h4, k1, k2, k3, k4, k5, trivial⟩⟩
      · exact h.elim
    · exact h.elim
  · split at h
    · next e1 e2 =>
      obtain ⟨h1, h2, h3, h⟩ := h
      split at h
      · next e3 e4 e5 =>
        obtain ⟨k1, k2, k3, k4, k5, k6, k7, k8⟩ := h
        exact ⟨_, k8, by simp only [stepV, e1, e2, e3, e4, e5]; exact ⟨h1, h2, h3, k1, k2, k3, k4, k5, k6, k7, trivial⟩⟩
      · exact h.elim
    · exact h.elim
  · split at h
    · obtain ⟨h1, h2, h3, a, rt, h4, h5⟩ := h
      exact ⟨_, h5, by simp only [stepV]; exact ⟨h1, h2, h3, a, rt, h4, rfl⟩⟩
    · exact h.elim
  · split at h
    · next e1 =>
      obtain ⟨h1, h2, h3, h4, h5, h6, h7⟩ := h
      exact ⟨_, h7, by simp only [stepV, e1]; exact ⟨h1, h2, h3, h4, h5, h6, trivial⟩⟩
    · exact h.elim
  · have hc : ∃ e, R e ∧ readV P N L dst op (· = e) st := by
      unfold readV at h
      split at h
      · obtain ⟨h1, h2, h3, h4, h5⟩ := h
        exact ⟨_, h5, h1, h2, h3, h4, rfl⟩
      · exact h.elim
    obtain ⟨e, h1, h2⟩ := hc
    refine ⟨e, h1, ?_⟩
    unfold stepV
    split <;> first | (exfalso; simp_all; done) | exact h2
theorem stepV_mono {P : Program} {N : Nat} {L : List Nat} {dst : Option Nat} {op : Op} {R R' : Eff → Prop} {st : St} (h : stepV P N L dst op R st) (hr : ∀ e, R e → R' e) : stepV P N L dst op R' st := by
  unfold stepV at h ⊢
  split at h
  · split at h
    · exact ⟨h.1, h.2.1, hr _ h.2.2⟩
    · exact h.elim
  · split at h
    · obtain ⟨h1, h2, h3, h4, h5, h6⟩ := h
      exact ⟨h1, h2, h3, h4, h5, hr _ h6⟩
    · exact h.elim
  · obtain ⟨h1, h2, h3, h4, h⟩ := h
    refine ⟨h1, h2, h3, h4, ?_⟩
    split at h
    · split at h
      · obtain ⟨k1, k2, k3, k4, k5, k6⟩ := h
        exact ⟨k1, k2, k3, k4, k5, hr _ k6⟩
      · exact h.elim
    · exact h.elim
  · split at h
    · obtain ⟨h1, h2, h3, h⟩ := h
      refine ⟨h1, h2, h3, ?_⟩
      split at h
      · obtain ⟨k1, k2, k3, k4, k5, k6, k7, k8⟩ := h
        exact ⟨k1, k2, k3, k4, k5, k6, k7, hr _ k8⟩
      · exact h.elim
    · exact h.elim
  · split at h
    · obtain ⟨h1, h2, h3, a, rt, h4, h5⟩ := h
      exact ⟨h1, h2, h3, a, rt, h4, hr _ h5⟩
    · exact h.elim
  · split at h
    · obtain ⟨h1, h2, h3, h4, h5, h6, h7⟩ := h
      exact ⟨h1, h2, h3, h4, h5, h6, hr _ h7⟩
    · exact h.elim
  · unfold readV at h ⊢
    split at h
    · obtain ⟨h1, h2, h3, h4, h5⟩ := h
      exact ⟨h1, h2, h3, h4, hr _ h5⟩
    · exact h.elim
theorem opV_one {P : Program} {N : Nat} {L : List Nat} {ds : List (Option Nat)} {o : Oper} {R : Eff → Prop} {st : St} (h : opV P N L ds o R st) : ∃ e, R e ∧ opV P N L ds o (· = e) st := by
  unfold opV at h
  split at h
  · next e0 =>
    obtain ⟨e, h1, h2⟩ := stepV_one h
    exact ⟨e, h1, by simp only [opV, e0]; exact h2⟩
  · next j want e0 =>
    split at h
    · next y d e1 e2 =>
      obtain ⟨h1, h⟩ := h
      split at h
      · next f xs e3 =>
        obtain ⟨h2, h3, a, rt, h4, h5, h6⟩ := h
        exact ⟨_, h6, by simp only [opV, e0, e1, e2, e3]; exact ⟨h1, h2, h3, a, rt, h4, h5, rfl⟩⟩
      · next e3 =>
        obtain ⟨h2, h3, h4, h5⟩ := h
        exact ⟨_, h5, by simp only [opV, e0, e1, e2, e3]; exact ⟨h1, h2, h3, h4, trivial⟩⟩
    · exact h.elim
theorem op_sound {P : Program} {N : Nat} {L : List Nat} {ops : Array Oper} {ds : List (Option Nat)} (hds : ds = ops.toList.map (·.dst)) {G : Gh} {O : Om} {w : World} {a : Act} {st : St} {o : Oper} {K : Act → World → Prop} {QQ : Exit → Act → World → Prop} {e : Eff} (hd : a.defers = []) (h : Rl P N G O w a.tmps st) (hs : opV P N L ds o (· = e) st)
    (hK : ∀ (a' : Act) w' G' O', a'.defers = [] → Rl P N G' O' w' a'.tmps (st.app e) → Fr G O w G' O' w' → K a' w') : (if Region.wanted o (yielded ops a.tmps) then o.wp P a w K QQ else K (a.put o.dst undef) w) := by
  unfold opV at hs
  split at hs
  · next hg =>
    rw [if_pos (by simp [Region.wanted, hg])]
    have hs' : stepW P N L o.dst o.op (fun s => s = st.app e) st := by
      obtain ⟨e', h1, h2⟩ := stepV_one hs
      have h3 : e' = e := h1
      subst h3
      exact stepV_mono h2 fun e'' h => by rw [h]
    exact step_sound hd h hs' fun a' w' G' O' st' h1 h2 h3 h4 => hK a' w' G' O' h1 (h4 ▸ h2) h3
  · next j want hg =>
    split at hs
    · next y d hy hdst =>
      obtain ⟨hdN, hs⟩ := hs
      have hw : Region.wanted o (yielded ops a.tmps) = y := by
        unfold Region.wanted
        rw [hg]
        exact yA_sound h hds hy
      rw [hw]
      have unw : ∀ b : AV, y = false → b.plain = true → e = .put noSrc d (.cnd y b) noTok → K (a.put o.dst undef) w := by
        intro b hyf hb he
        subst he
        rw [hdst]
        exact hK (a.put (some d) undef) w G O hd (h.pure hdN (.cnd y _ b (fun e => by rw [hyf] at e; cases e) (fun _ => rfl) hb)) (.refl _ _ _)
      split at hs
      · next f xs hcall =>
        obtain ⟨h1, h2, b, rt, h3, h4, h5⟩ := hs
        have hp : b.plain = true := by cases b <;> first | rfl | cases h4
        cases hyb : y with
        | false =>
          rw [if_neg (by simp)]
          exact unw b hyb hp h5.symm
        | true =>
          rw [if_pos rfl]
          obtain ⟨xs', ats, hop, rfl⟩ : ∃ xs' ats, o.op = .call { callee := .value (.func f), args := xs', argTypes := ats } ∧ xs = xs'.toList := by
            unfold isGoCall at hcall
            split at hcall
            · next f' xs' ats e => cases hcall; exact ⟨xs', ats, e, rfl⟩
            · cases hcall
          have hf := h3 hyb
          refine call_sound (Q := fun st' => st' = st.put noSrc d b rt) hd h hdst hop hdN (fun x hx => by rw [← hyb]; exact h1 x (by simpa using hx)) (fun x hx => h2 x (by simpa using hx)) hf rfl fun a' w' G' O' st' k1 k2 k3 k4 => ?_
          subst k4
          rw [hyb] at h5
          exact hK a' w' G' O' k1 (by rw [← h5]; exact k2.toCnd h4) k3
      · obtain ⟨h1, h2, h3, h4⟩ := hs
        cases hyb : y with
        | false =>
          rw [if_neg (by simp)]
          exact unw _ hyb h3 h4.symm
        | true =>
          rw [if_pos rfl]
          rw [hyb] at h1
          obtain ⟨v, hrun, hv⟩ := ev_sound h h1
          refine wp_val hrun ?_
          rw [hdst]
          refine hK (a.put (some d) v) w G O hd ?_ (.refl _ _ _)
          rw [← h4]
          refine h.pure hdN (.cnd y v _ (fun _ => ?_) (fun e => by rw [hyb] at e; cases e) h3)
          rcases hv with hv | ⟨r, off, g, T, cs, e1, rfl, e2, e3⟩
          · exact .sh hv
          · rw [e1] at h2 ⊢
            have hne : r ≠ d := by simpa [AV.rootNe] using h2
            exact .ref r off g (by rw [getD_set_ne' hne]; exact e2) ⟨T, cs, by rw [St.put_val_ne _ _ _ _ hne, e3]; rfl⟩
    · exact hs.elim
end Go.Proofs.YtldnkeackphilaaGreatDoor
/- The calculus of values: regions that draw their order: footprints. -/
namespace Go.Proofs.YtldnkeackphilaaGreatDoor
open Go.RowKit

def opT : Operand → List Nat
  | .tmp t => [t]
  | _ => []
def guardS (ds : List (Option Nat)) (o : Oper) : List Nat := match o.guard with
  | some (j, _) => (ds.getD j none).toList
  | none => []
def opnds (ds : List (Option Nat)) (o : Oper) : List Nat := (o.op.operands.toList.flatMap opT) ++ guardS ds o
def rootS (rts : List (Nat × Nat)) (t : Nat) : Nat := (rts.lookup t).getD t
def fpV (rts : List (Nat × Nat)) (ds : List (Option Nat)) (o : Oper) : List Nat := opnds ds o ++ (opnds ds o).map (rootS rts)
def fpW (rts : List (Nat × Nat)) (o : Oper) : List Nat := o.dst.toList ++ (match o.op with
  | .store _ (.tmp a) _ => [rootS rts a]
  | _ => [])
def fpT (L : List Nat) (rts : List (Nat × Nat)) (o : Oper) : List Nat := match o.op with
  | .assign (.tmp t) => [t]
  | .move (.tmp t) => if o.dst.any L.contains then [t] else []
  | .load _ (.tmp t) => if o.dst.any L.contains then [rootS rts t] else []
  | .store _ _ (.tmp t) => [t]
  | .box _ (.tmp t) => [t]
  | .call { callee := .builtin .append, args := xs, argTypes := _ } => match xs.toList with
    | .tmp t :: _ => [t]
    | _ => []
  | _ => []
def rootOk (rts : List (Nat × Nat)) (st : St) (t : Nat) : Prop := match st.val t with
  | .ref r _ => r = rootS rts t
  | .cnd _ (.ref r _) => r = rootS rts t
  | .box _ _ => rootS rts t = t
  | .dead => False
  | _ => True
def AV.rootIn (V : List Nat) : AV → Prop
  | .ref r _ => r ∈ V
  | .cnd _ (.ref r _) => r ∈ V
  | _ => True
def Eff.rootIn (V : List Nat) : Eff → Prop
  | .put _ _ a _ => a.rootIn V
  | .sto _ _ _ _ _ _ _ => True
def EffIn (V W T : List Nat) : Eff → Prop
  | .put src d a _ => d ∈ W ∧ (∀ t k, src t k = true → t ∈ T) ∧ a.rootIn V
  | .sto src r _ _ _ _ _ => r ∈ W ∧ ∀ t k, src t k = true → t ∈ T

theorem get_congr {s s' : St} {x : Operand} (h : ∀ t ∈ opT x, s.val t = s'.val t) : s.get x = s'.get x ∧ ∀ y, s.ok y x = s'.ok y x := by
  cases x with
  | tmp t =>
    have := h t (by simp [opT])
    exact ⟨by simp only [St.get, this], fun y => by simp only [St.ok, this]⟩
  | _ => exact ⟨rfl, fun _ => rfl⟩
theorem box_match {α : Sort _} {a b : AV} (h : ∀ T cs, a = .box T cs ↔ b = .box T cs) (f : TypeId → List AV → α) (d : α) : (match (generalizing := false) a with | .box T cs => f T cs | _ => d) = (match (generalizing := false) b with | .box T cs => f T cs | _ => d) := by
  cases a with
  | box T cs =>
    have := (h T cs).1 rfl
    subst this
    rfl
  | _ => cases b with
    | box T cs => exact absurd ((h T cs).2 rfl) (by simp)
    | _ => rfl
structure Agr (L : List Nat) (rts : List (Nat × Nat)) (ds : List (Option Nat)) (o : Oper) (s s' : St) : Prop where
  val : ∀ t ∈ opnds ds o, s.val t = s'.val t
  box : ∀ t ∈ opnds ds o, ∀ T cs, s.val (rootS rts t) = .box T cs ↔ s'.val (rootS rts t) = .box T cs
  tok : ∀ t ∈ fpT L rts o, ∀ k, s.tok t k = s'.tok t k
theorem Agr.get {L : List Nat} {rts : List (Nat × Nat)} {ds : List (Option Nat)} {o : Oper} {s s' : St} (h : Agr L rts ds o s s') {x : Operand} (hx : x ∈ o.op.operands.toList) : s.get x = s'.get x ∧ ∀ y, s.ok y x = s'.ok y x :=
  get_congr fun t ht => h.val t (List.mem_append_left _ (List.mem_flatMap.2 ⟨x, hx, ht⟩))
theorem Agr.root {L : List Nat} {rts : List (Nat × Nat)} {ds : List (Option Nat)} {o : Oper} {s s' : St} (h : Agr L rts ds o s s') (hr : ∀ t ∈ opnds ds o, rootOk rts s t) {x : Operand} (hx : x ∈ o.op.operands.toList) {r off : Nat} (hg : s.get x = .ref r off) :
    (∃ t, x = .tmp t ∧ r = rootS rts t ∧ t ∈ opnds ds o) ∧ ∀ T cs, s.val r = .box T cs ↔ s'.val r = .box T cs := by
  cases x with
  | tmp t =>
    have ht : t ∈ opnds ds o := List.mem_append_left _ (List.mem_flatMap.2 ⟨_, hx, by simp [opT]⟩)
    have hro := hr t ht
    have hrr : r = rootS rts t := by
      simp only [St.get] at hg
      unfold rootOk at hro
      split at hg
      · next e => cases hg; rw [e] at hro; exact hro.symm
      · next y b e => subst hg; rw [e] at hro; exact hro
      · next e1 e2 => rw [hg] at hro; exact hro
    exact ⟨⟨t, rfl, hrr, ht⟩, fun T cs => by rw [hrr]; exact h.box t ht T cs⟩
  | const v =>
    simp only [St.get] at hg
    unfold constAV at hg
    split at hg
    · cases hg
    · split at hg <;> cases hg
    · unfold constCell at hg
      split at hg <;> cases hg
  | global g => cases hg
  | func f => cases hg
theorem Agr.tk {L : List Nat} {rts : List (Nat × Nat)} {ds : List (Option Nat)} {o : Oper} {s s' : St} (h : Agr L rts ds o s s') {x : Operand} (hx : ∀ t, x = .tmp t → t ∈ fpT L rts o) : tkO s x = tkO s' x := by
  funext k
  cases x with
  | tmp t => exact h.tok t (hx t rfl) k
  | const v =>
    cases v with
    | slice A n c => cases A <;> cases n <;> cases c <;> cases k <;> rfl
    | _ => cases k <;> rfl
  | _ => cases k <;> rfl
theorem fill_congr {s s' : St} (pl : List (Nat × Nat)) : ∀ (l : List (Nat × Operand)) (cs : List AV), (∀ p ∈ l, s.get p.2 = s'.get p.2) → fillA s pl cs l = fillA s' pl cs l
  | [], _, _ => rfl
  | p :: l, cs, h => by simp only [fillA, h p (by simp)]; exact fill_congr pl l _ fun q hq => h q (by simp [hq])
theorem fillC_congr {s s' : St} (y : Bool) (pl : List (Nat × Nat)) (n : Nat) : ∀ (l : List (Nat × Operand)), (∀ p ∈ l, s.get p.2 = s'.get p.2) → (∀ p ∈ l, s.ok y p.2 = s'.ok y p.2) → fillC s y pl n l = fillC s' y pl n l
  | [], _, _ => rfl
  | p :: l, h, k => by simp only [fillC, h p (by simp), k p (by simp), fillC_congr y pl n l (fun q hq => h q (by simp [hq])) (fun q hq => k q (by simp [hq]))]
theorem ev_congr {P : Program} {op : Op} {s s' : St} (hg : ∀ x ∈ op.operands.toList, s.get x = s'.get x) (hb : ∀ x ∈ op.operands.toList, ∀ r off, s.get x = .ref r off → ∀ T cs, s.val r = .box T cs ↔ s'.val r = .box T cs) : ev P s op = ev P s' op := by
  cases op with
  | load T x =>
    have h1 := hg x (by simp [Op.operands])
    have h2 := hb x (by simp [Op.operands])
    simp only [ev]
    rw [← h1]
    cases he : s.get x with
    | ref r off => exact box_match (h2 r off he) (fun _ cs => ldA P T (cs.drop off)) .dead
    | _ => rfl
  | slice T x lo hi mx =>
    have h1 := hg x (by simp [Op.operands])
    have e1 : ∀ d, boundA s lo d = boundA s' lo d := fun d => by
      cases lo with
      | none => rfl
      | some z => simp only [boundA, hg z (by simp [Op.operands])]
    have e2 : ∀ d, boundA s hi d = boundA s' hi d := fun d => by
      cases hi with
      | none => rfl
      | some z => simp only [boundA, hg z (by simp [Op.operands])]
    simp only [ev, h1, e1, e2]
  | call c =>
    obtain ⟨callee, xs, ats⟩ := c
    cases callee with
    | builtin b =>
      cases hx : (xs[0]? : Option Operand) with
      | none => simp only [ev, hx]
      | some x =>
        have h1 := hg x (by simp [Op.operands, Call.operands, Array.mem_of_getElem? hx])
        cases b <;> simp only [ev, hx, h1]
    | _ => rfl
  | move x => simp only [ev, hg x (by simp [Op.operands])]
  | assign x => simp only [ev, hg x (by simp [Op.operands])]
  | pick c x y => simp only [ev, hg c (by simp [Op.operands]), hg x (by simp [Op.operands]), hg y (by simp [Op.operands])]
  | nilCheck x => simp only [ev, hg x (by simp [Op.operands])]
  | fieldAddr S x f => simp only [ev, hg x (by simp [Op.operands])]
  | field S x f => simp only [ev, hg x (by simp [Op.operands])]
  | indexAddr S x i => simp only [ev, hg x (by simp [Op.operands]), hg i (by simp [Op.operands])]
  | index S x i => simp only [ev, hg x (by simp [Op.operands]), hg i (by simp [Op.operands])]
  | binOp op T x y zT => simp only [ev, hg x (by simp [Op.operands]), hg y (by simp [Op.operands])]
  | unOp op T x => simp only [ev, hg x (by simp [Op.operands])]
  | convert a b x => simp only [ev, hg x (by simp [Op.operands])]
  | makeInterface T x => simp only [ev, hg x (by simp [Op.operands])]
  | extract x j => simp only [ev, hg x (by simp [Op.operands])]
  | build T parts =>
    have h1 : ∀ p ∈ parts.toList, s.get p.2 = s'.get p.2 := fun p hp => hg p.2 (by simp [Op.operands]; exact ⟨p.1, by simpa using hp⟩)
    simp only [ev, fill_congr _ parts.toList _ h1]
  | _ => rfl
theorem evc_congr {P : Program} {y : Bool} {op : Op} {s s' : St} (hg : ∀ x ∈ op.operands.toList, s.get x = s'.get x) (hk : ∀ x ∈ op.operands.toList, ∀ y, s.ok y x = s'.ok y x) (hb : ∀ x ∈ op.operands.toList, ∀ r off, s.get x = .ref r off → ∀ T cs, s.val r = .box T cs ↔ s'.val r = .box T cs) : evc P s y op = evc P s' y op := by
  cases op with
  | load T x =>
    have h1 := hg x (by simp [Op.operands])
    have h2 := hb x (by simp [Op.operands])
    simp only [evc]
    rw [← h1, hk x (by simp [Op.operands])]
    cases he : s.get x with
    | ref r off => exact congrArg _ (box_match (h2 r off he) (fun _ cs => y = true → ldC P T (cs.drop off)) False)
    | _ => rfl
  | slice T x lo hi mx =>
    have h1 := hg x (by simp [Op.operands])
    have e1 : ∀ d, boundA s lo d = boundA s' lo d := fun d => by
      cases lo with
      | none => rfl
      | some z => simp only [boundA, hg z (by simp [Op.operands])]
    have e2 : ∀ d, boundA s hi d = boundA s' hi d := fun d => by
      cases hi with
      | none => rfl
      | some z => simp only [boundA, hg z (by simp [Op.operands])]
    have e3 : ∀ d, boundC s y lo d = boundC s' y lo d := fun d => by
      cases lo with
      | none => rfl
      | some z => simp only [boundC, hg z (by simp [Op.operands]), hk z (by simp [Op.operands])]
    have e4 : ∀ d, boundC s y hi d = boundC s' y hi d := fun d => by
      cases hi with
      | none => rfl
      | some z => simp only [boundC, hg z (by simp [Op.operands]), hk z (by simp [Op.operands])]
    simp only [evc, h1, hk x (by simp [Op.operands]), e1, e2, e3, e4]
  | call c =>
    obtain ⟨callee, xs, ats⟩ := c
    cases callee with
    | builtin b =>
      cases hx : (xs[0]? : Option Operand) with
      | none => simp only [evc, hx]
      | some x =>
        have hm : x ∈ (Op.call ⟨.builtin b, xs, ats⟩).operands.toList := by simp [Op.operands, Call.operands, Array.mem_of_getElem? hx]
        cases hT : (ats[0]? : Option TypeId) <;> cases b <;> simp only [evc, hx, hT, hg x hm, hk x hm]
    | _ => rfl
  | move x => simp only [evc, hk x (by simp [Op.operands])]
  | assign x => simp only [evc, hk x (by simp [Op.operands])]
  | pick c x z => simp only [evc, hg c (by simp [Op.operands]), hg x (by simp [Op.operands]), hg z (by simp [Op.operands]), hk c (by simp [Op.operands]), hk x (by simp [Op.operands]), hk z (by simp [Op.operands])]
  | nilCheck x => simp only [evc, hg x (by simp [Op.operands]), hk x (by simp [Op.operands])]
  | fieldAddr S x f => simp only [evc, hg x (by simp [Op.operands]), hk x (by simp [Op.operands])]
  | field S x f => simp only [evc, hg x (by simp [Op.operands]), hk x (by simp [Op.operands])]
  | indexAddr S x i => simp only [evc, hg x (by simp [Op.operands]), hg i (by simp [Op.operands]), hk x (by simp [Op.operands]), hk i (by simp [Op.operands])]
  | index S x i => simp only [evc, hg x (by simp [Op.operands]), hg i (by simp [Op.operands]), hk x (by simp [Op.operands]), hk i (by simp [Op.operands])]
  | binOp op T x z zT => simp only [evc, hg x (by simp [Op.operands]), hg z (by simp [Op.operands]), hk x (by simp [Op.operands]), hk z (by simp [Op.operands])]
  | unOp op T x => simp only [evc, hg x (by simp [Op.operands]), hk x (by simp [Op.operands])]
  | convert a b x => simp only [evc, hg x (by simp [Op.operands]), hk x (by simp [Op.operands])]
  | makeInterface T x => simp only [evc, hg x (by simp [Op.operands]), hk x (by simp [Op.operands])]
  | extract x j => simp only [evc, hg x (by simp [Op.operands]), hk x (by simp [Op.operands])]
  | build T parts =>
    have h1 : ∀ p ∈ parts.toList, s.get p.2 = s'.get p.2 := fun p hp => hg p.2 (by simp [Op.operands]; exact ⟨p.1, by simpa using hp⟩)
    have h2 : ∀ p ∈ parts.toList, s.ok y p.2 = s'.ok y p.2 := fun p hp => hk p.2 (by simp [Op.operands]; exact ⟨p.1, by simpa using hp⟩) y
    simp only [evc, fillC_congr y _ _ parts.toList h1 h2]
  | _ => rfl
end Go.Proofs.YtldnkeackphilaaGreatDoor
/- The calculus of values: regions that draw their order. -/
namespace Go.Proofs.YtldnkeackphilaaGreatDoor
open Go.RowKit

theorem yA_congr {L : List Nat} {rts : List (Nat × Nat)} {ds : List (Option Nat)} {o : Oper} {s s' : St} (h : Agr L rts ds o s s') {j : Nat} {want : Bool} (hg : o.guard = some (j, want)) : yA ds s j want = yA ds s' j want := by
  unfold yA
  cases hd : ds.getD j none with
  | none => rfl
  | some t =>
    have := h.val t (List.mem_append_right _ (by simp only [guardS, hg, hd]; simp))
    simp only [this]
theorem trR_congr {P : Program} {L : List Nat} {rts : List (Nat × Nat)} {ds : List (Option Nat)} {o : Oper} {s s' : St} (h : Agr L rts ds o s s') (hr : ∀ t ∈ opnds ds o, rootOk rts s t) {d : Nat} (hd : o.dst = some d) : trR P s L d o.op = trR P s' L d o.op ∧ trT P s L d o.op = trT P s' L d o.op := by
  obtain ⟨dst, op, ty, pos, aft, gd⟩ := o
  simp only at hd
  subst hd
  cases op with
  | assign x =>
    have h1 := h.get (x := x) (by simp [Op.operands])
    have h2 := h.tk (x := x) (fun t e => by subst e; simp [fpT])
    exact ⟨by simp only [trR, h1.1], by simp only [trT, tokL, h1.1, h2]⟩
  | move x =>
    have h1 := h.get (x := x) (by simp [Op.operands])
    by_cases hL : L.contains d = true
    · have h2 := h.tk (x := x) (fun t e => by subst e; simp [fpT]; simpa using hL)
      exact ⟨by simp only [trR, h1.1], by simp only [trT, tokL, h1.1, h2]⟩
    · have hL' : L.contains d = false := by simpa using hL
      exact ⟨by simp only [trR, hL', Bool.false_and, Bool.false_eq_true, if_false], by simp only [trT, hL', Bool.false_and, Bool.false_eq_true, if_false]⟩
  | load T x =>
    have h1 := h.get (x := x) (by simp [Op.operands])
    cases hg : s.get x with
    | ref r off =>
      have hg' : s'.get x = .ref r off := by rw [← h1.1]; exact hg
      by_cases hL : L.contains d = true
      · obtain ⟨⟨t, rfl, hrt, ht⟩, -⟩ := h.root hr (by simp [Op.operands]) hg
        have htk : ∀ k, s.tok r k = s'.tok r k := fun k => h.tok r (by simp [fpT, hrt]; simpa using hL) k
        refine ⟨by simp only [trR, hg, hg'], ?_⟩
        simp only [trT, hg, hg', htk]
      · have hL' : L.contains d = false := by simpa using hL
        exact ⟨by simp only [trR, hg, hg', hL', Bool.false_eq_true, if_false], by simp only [trT, hg, hg', hL', Bool.false_eq_true, if_false]⟩
    | _ => exact ⟨by simp only [trR, ← h1.1, hg], by simp only [trT, ← h1.1, hg]⟩
  | _ => exact ⟨rfl, rfl⟩
theorem stepV_congr {P : Program} {N : Nat} {L : List Nat} {rts : List (Nat × Nat)} {ds : List (Option Nat)} {o : Oper} {R : Eff → Prop} {s s' : St} (h : Agr L rts ds o s s') (hr : ∀ t ∈ opnds ds o, rootOk rts s t) (hs : stepV P N L o.dst o.op R s) : stepV P N L o.dst o.op R s' := by
  have hg := fun x (hx : x ∈ o.op.operands.toList) => (h.get hx).1
  have hk := fun x (hx : x ∈ o.op.operands.toList) y => (h.get hx).2 y
  have hb := fun x (hx : x ∈ o.op.operands.toList) r off (e : s.get x = .ref r off) => (h.root hr hx e).2
  have htr := fun d (hd : o.dst = some d) => trR_congr (P := P) h hr hd
  have hev := ev_congr (P := P) hg hb
  have hec := evc_congr (P := P) (y := true) hg hk hb
  obtain ⟨dst, op, ty, pos, aft, gd⟩ := o
  simp only at hs hg hk hb htr hev hec ⊢
  have rest : readV P N L dst op R s → readV P N L dst op R s' := by
    intro hh
    unfold readV at hh ⊢
    cases hd : dst with
    | none => rw [hd] at hh; exact hh
    | some d =>
      obtain ⟨t1, t2⟩ := htr d hd
      rw [hd] at hh
      simp only at hh ⊢
      rw [← hev, ← hec, ← t1, ← t2]
      exact hh
  cases op with
  | alloc T => exact hs
  | box T x =>
    have h1 := hg x (by simp [Op.operands])
    have h2 := hk x (by simp [Op.operands])
    have h3 := h.tk (x := x) (fun t e => by subst e; simp [fpT])
    simp only [stepV, celL] at hs ⊢
    rw [← h1, ← h2, ← h3]
    exact hs
  | store T addr x =>
    have h1 := hg x (by simp [Op.operands])
    have h2 := hk x (by simp [Op.operands])
    have h3 := h.tk (x := x) (fun t e => by subst e; cases addr <;> simp [fpT])
    have h4 := hg addr (by simp [Op.operands])
    have h5 := hk addr (by simp [Op.operands])
    simp only [stepV, celL] at hs ⊢
    rw [← h1, ← h2, ← h3, ← h4, ← h5]
    obtain ⟨k1, k2, k3, k4, hs⟩ := hs
    refine ⟨k1, k2, k3, k4, ?_⟩
    cases he : s.get addr with
    | ref r off =>
      rw [he] at hs
      simp only at hs ⊢
      have hbx := hb addr (by simp [Op.operands]) r off he
      cases hv : s.val r with
      | box T' cs =>
        rw [hv] at hs
        rw [(hbx T' cs).1 hv]
        exact hs
      | _ => rw [hv] at hs; exact hs.elim
    | _ => rw [he] at hs; exact hs.elim
  | buildSlice T n parts =>
    simp only [stepV] at hs ⊢
    cases hd : dst with
    | none => rw [hd] at hs; exact hs
    | some d =>
      rw [hd] at hs
      cases hE : elemP P T with
      | none => rw [hE] at hs; exact hs
      | some E =>
        rw [hE] at hs
        obtain ⟨k1, k2, k3, k4, k5, k6, k7⟩ := hs
        have hpg : ∀ p ∈ parts.toList, s.get p.2 = s'.get p.2 ∧ ∀ y, s.ok y p.2 = s'.ok y p.2 := fun p hp => by
          have hm : p.2 ∈ (Op.buildSlice T n parts).operands.toList := by simp [Op.operands]; exact ⟨p.1, by simpa using hp⟩
          exact ⟨hg _ hm, hk _ hm⟩
        refine ⟨k1, fun p hp => ?_, k3, k4, k5, k6, ?_⟩
        · obtain ⟨q1, q2⟩ := hpg p hp
          rw [← q1, ← q2]
          exact k2 p hp
        · have : (parts.toList.map fun p => (s'.get p.2).cells) = parts.toList.map fun p => (s.get p.2).cells := List.map_congr_left fun p hp => by rw [(hpg p hp).1]
          rw [this]
          exact k7
  | call c =>
    obtain ⟨callee, xs, ats⟩ := c
    cases callee with
    | builtin b =>
      cases b with
      | append =>
        simp only [stepV] at hs ⊢
        split at hs
        · next ts x T T' d hx ha =>
          obtain ⟨k1, k2, k3, hs⟩ := hs
          have hxm : ∀ z ∈ xs.toList, z ∈ (Op.call ⟨.builtin .append, xs, ats⟩).operands.toList := fun z hz => by simpa [Op.operands, Call.operands] using hz
          have h1 := hg x (hxm x (by rw [hx]; simp))
          have h2 := hk x (hxm x (by rw [hx]; simp))
          have h3 : s.val ts = s'.val ts := h.val ts (List.mem_append_left _ (List.mem_flatMap.2 ⟨.tmp ts, hxm _ (by rw [hx]; simp), by simp [opT]⟩))
          have h4 : ∀ k, s.tok ts k = s'.tok ts k := fun k => h.tok ts (by simp [fpT, hx]) k
          rw [← h1, ← h2, ← h3, ← h4]
          exact ⟨k1, k2, k3, hs⟩
        · exact hs.elim
      | _ => exact rest hs
    | value f =>
      cases f with
      | func f =>
        simp only [stepV] at hs ⊢
        have hxm : ∀ z ∈ xs.toList, z ∈ (Op.call ⟨.value (.func f), xs, ats⟩).operands.toList := fun z hz => by simp [Op.operands, Call.operands]; exact .inr (by simpa using hz)
        cases hd : dst with
        | none => rw [hd] at hs; exact hs
        | some d =>
          rw [hd] at hs
          obtain ⟨k1, k2, k3, b, rt, k4, k5⟩ := hs
          have hm : xs.toList.map s'.get = xs.toList.map s.get := List.map_congr_left fun z hz => (hg z (hxm z hz)).symm
          exact ⟨k1, fun z hz => by rw [← hk z (hxm z hz)]; exact k2 z hz, fun z hz => by rw [← hg z (hxm z hz)]; exact k3 z hz, b, rt, by rw [hm]; exact k4, k5⟩
      | _ => exact rest hs
    | _ => exact rest hs
  | _ => exact rest hs
theorem opV_congr {P : Program} {N : Nat} {L : List Nat} {rts : List (Nat × Nat)} {ds : List (Option Nat)} {o : Oper} {R : Eff → Prop} {s s' : St} (h : Agr L rts ds o s s') (hr : ∀ t ∈ opnds ds o, rootOk rts s t) (hs : opV P N L ds o R s) : opV P N L ds o R s' := by
  unfold opV at hs ⊢
  cases hg : o.guard with
  | none =>
    rw [hg] at hs
    exact stepV_congr h hr hs
  | some q =>
    obtain ⟨j, want⟩ := q
    rw [hg] at hs
    simp only at hs ⊢
    rw [← yA_congr h hg]
    cases hy : yA ds s j want with
    | none => rw [hy] at hs; exact hs.elim
    | some y =>
      rw [hy] at hs
      cases hd : o.dst with
      | none => rw [hd] at hs; exact hs.elim
      | some d =>
        rw [hd] at hs
        simp only at hs ⊢
        obtain ⟨k1, hs⟩ := hs
        refine ⟨k1, ?_⟩
        have hgt := fun x (hx : x ∈ o.op.operands.toList) => (h.get hx).1
        have hkt := fun x (hx : x ∈ o.op.operands.toList) y => (h.get hx).2 y
        have hbt := fun x (hx : x ∈ o.op.operands.toList) r off (e : s.get x = .ref r off) => (h.root hr hx e).2
        cases hc : isGoCall o.op with
        | none =>
          rw [hc] at hs
          simp only at hs ⊢
          rw [← ev_congr hgt hbt, ← evc_congr hgt hkt hbt]
          exact hs
        | some q =>
          obtain ⟨f, xs⟩ := q
          rw [hc] at hs
          simp only at hs ⊢
          have hxm : ∀ z ∈ xs, z ∈ o.op.operands.toList := by
            unfold isGoCall at hc
            split at hc
            · next f' xs' ats e =>
              cases hc
              rw [e]
              intro z hz
              simp [Op.operands, Call.operands]
              exact .inr (by simpa using hz)
            · cases hc
          obtain ⟨k2, k3, b, rt, k4, k5, k6⟩ := hs
          have hm : xs.map s'.get = xs.map s.get := List.map_congr_left fun z hz => (hgt z (hxm z hz)).symm
          exact ⟨fun z hz => by rw [← hkt z (hxm z hz)]; exact k2 z hz, fun z hz => by rw [← hgt z (hxm z hz)]; exact k3 z hz, b, rt, by rw [hm]; exact k4, k5, k6⟩
end Go.Proofs.YtldnkeackphilaaGreatDoor
