/- The calculus of values: effects that commute. -/
import Derived.Test.YtldnkeackphilaaGreatDoorNs5
set_option linter.unusedSimpArgs false
set_option linter.unusedVariables false
namespace Go.Proofs.YtldnkeackphilaaGreatDoor
open Go.RowKit

theorem Agr.refl {L : List Nat} {rts : List (Nat × Nat)} {ds : List (Option Nat)} {o : Oper} (s : St) : Agr L rts ds o s s := ⟨fun _ _ => rfl, fun _ _ _ _ => Iff.rfl, fun _ _ _ => rfl⟩
theorem rho_tmp {x : Operand} {f : Nat → Option Nat} {t k : Nat} (h : (rhoO x f t k).isSome = true) : x = .tmp t := by
  cases x with
  | tmp t' =>
    simp only [rhoO] at h
    split at h
    · next e => rw [e]
    · cases h
  | _ => cases h
theorem effIn_of {P : Program} {N : Nat} {L : List Nat} {rts : List (Nat × Nat)} {ds : List (Option Nat)} {o : Oper} {e : Eff} {s : St} (hr : ∀ t ∈ opnds ds o, rootOk rts s t) (hs : opV P N L ds o (· = e) s) (he : e.rootIn (fpV rts ds o)) : EffIn (fpV rts ds o) (fpW rts o) (fpT L rts o) e := by
  have hdst : ∀ d, o.dst = some d → d ∈ fpW rts o := fun d hd => by simp [fpW, hd]
  have nosrc : ∀ d a, o.dst = some d → e = .put noSrc d a noTok → EffIn (fpV rts ds o) (fpW rts o) (fpT L rts o) e := fun d a hd h => by
    subst h
    exact ⟨hdst d hd, fun t k h => (by cases h), he⟩
  have hroot := fun x (hx : x ∈ o.op.operands.toList) r off (e : s.get x = .ref r off) => ((Agr.refl (L := L) s).root hr hx e).1
  unfold opV at hs
  split at hs
  · unfold stepV at hs
    split at hs
    · next hop =>
      split at hs
      · next d z h1 h2 =>
        obtain ⟨k1, k2, rfl⟩ := hs
        exact ⟨hdst d h1, fun t k h => (by cases h), he⟩
      · exact hs.elim
    · next T x hop =>
      split at hs
      · next d h1 =>
        obtain ⟨k1, k2, k3, k4, k5, rfl⟩ := hs
        exact ⟨hdst d h1, fun t k h => by have := rho_tmp h; subst this; simp [fpT, hop], he⟩
      · exact hs.elim
    · next T addr x hop =>
      obtain ⟨h1, h2, h3, h4, hs⟩ := hs
      split at hs
      · next r off hg =>
        split at hs
        · next T' cs hb =>
          obtain ⟨k1, k2, k3, k4, k5, rfl⟩ := hs
          obtain ⟨t, rfl, hrt, -⟩ := hroot addr (by rw [hop]; simp [Op.operands]) r off hg
          exact ⟨by simp [fpW, hop, hrt], fun t k h => by have := rho_tmp h; subst this; simp [fpT, hop]⟩
        · exact hs.elim
      · exact hs.elim
    · next xs ats hop =>
      split at hs
      · next ts x T T' d hx ha hd =>
        obtain ⟨k1, k2, k3, hs⟩ := hs
        split at hs
        · obtain ⟨q1, q2, q3, q4, q5, q6, q7, rfl⟩ := hs
          refine ⟨hdst d hd, fun t k h => ?_, he⟩
          have : t = ts := by simp at h; exact h.1
          subst this
          simp [fpT, hop, hx]
        · exact hs.elim
      · exact hs.elim
    · next f xs ats hop =>
      split at hs
      · next d hd =>
        obtain ⟨k1, k2, k3, b, rt, k4, rfl⟩ := hs
        exact ⟨hdst d hd, fun t k h => (by cases h), he⟩
      · exact hs.elim
    · next T n parts hop =>
      split at hs
      · next d E hd hE =>
        obtain ⟨k1, k2, k3, k4, k5, k6, rfl⟩ := hs
        exact ⟨hdst d hd, fun t k h => (by cases h), he⟩
      · exact hs.elim
    · unfold readV at hs
      split at hs
      · next d hd =>
        obtain ⟨k1, k2, k3, k4, rfl⟩ := hs
        refine ⟨hdst d hd, fun t k h => ?_, he⟩
        cases hop : o.op with
        | assign x =>
          rw [hop] at h
          simp only [trR] at h
          split at h
          · have := rho_tmp h; subst this; simp [fpT, hop]
          · cases h
        | move x =>
          rw [hop] at h
          simp only [trR] at h
          split at h
          · next hL =>
            have := rho_tmp h
            subst this
            simp only [Bool.and_eq_true] at hL
            simp only [fpT, hop, hd, Option.any_some, hL.1, if_true, List.mem_singleton]
          · cases h
        | load T x =>
          rw [hop] at h
          simp only [trR] at h
          cases hg : s.get x with
          | ref r off =>
            rw [hg] at h
            simp only at h
            obtain ⟨t', rfl, hrt, -⟩ := hroot x (by rw [hop]; simp [Op.operands]) r off hg
            by_cases hL : L.contains d = true
            · rw [if_pos hL] at h
              have ht : t = r := by
                by_cases hR : isRowT P T = true
                · rw [if_pos hR] at h
                  by_cases q : t = r ∧ off + 1 ≤ k ∧ k ≤ off + szP P T
                  · exact q.1
                  · simp only [q, if_false] at h; cases h
                · rw [if_neg hR] at h
                  by_cases q : t = r ∧ k = off + 1
                  · exact q.1
                  · simp only [q, if_false] at h; cases h
              simp only [fpT, hop, hd, Option.any_some, hL, if_true, List.mem_singleton]
              rw [ht, hrt]
            · rw [if_neg hL] at h
              cases h
          | _ => rw [hg] at h; cases h
        | _ => rw [hop] at h; cases h
      · exact hs.elim
  · split at hs
    · next y d hy hd =>
      obtain ⟨k1, hs⟩ := hs
      split at hs
      · obtain ⟨q1, q2, b, rt, q3, q4, q5⟩ := hs
        exact nosrc d _ hd q5.symm
      · obtain ⟨q1, q2, q3, q4⟩ := hs
        exact nosrc d _ hd q4.symm
    · exact hs.elim
theorem killR_or (d : Nat) (a : AV) : a.killR d = a ∨ a.killR d = .dead := by
  cases a with
  | ref r off => simp only [AV.killR]; by_cases e : r = d <;> simp [e]
  | cnd y b =>
    cases b with
    | ref r off => simp only [AV.killR]; by_cases e : r = d <;> simp [e]
    | _ => exact .inl rfl
  | _ => exact .inl rfl
theorem killR_in {d : Nat} {V : List Nat} {a : AV} (h : a.rootIn V) (hd : d ∉ V) : a.killR d = a := by
  cases a with
  | ref r off =>
    have : r ≠ d := fun e => hd (e ▸ h)
    simp [AV.killR, this]
  | cnd y b =>
    cases b with
    | ref r off =>
      have : r ≠ d := fun e => hd (e ▸ h)
      simp [AV.killR, this]
    | _ => rfl
  | _ => rfl
theorem killR_box' {d : Nat} {a : AV} {T : TypeId} {cs : List AV} : a.killR d = .box T cs ↔ a = .box T cs := by
  cases a with
  | ref r off => simp only [AV.killR]; split <;> simp
  | cnd y b =>
    cases b with
    | ref r off => simp only [AV.killR]; split <;> simp
    | _ => simp [AV.killR]
  | _ => simp [AV.killR]
theorem killR_comm (d d' : Nat) (a : AV) : (a.killR d).killR d' = (a.killR d').killR d := by
  cases a with
  | ref r off =>
    by_cases e : r = d
    · subst e
      by_cases e' : r = d'
      · subst e'; rfl
      · simp [AV.killR, e']
    · by_cases e' : r = d'
      · subst e'; simp [AV.killR, e]
      · simp [AV.killR, e, e']
  | cnd y b =>
    cases b with
    | ref r off =>
      by_cases e : r = d
      · subst e
        by_cases e' : r = d'
        · subst e'; rfl
        · simp [AV.killR, e']
      · by_cases e' : r = d'
        · subst e'; simp [AV.killR, e]
        · simp [AV.killR, e, e']
    | _ => rfl
  | _ => rfl
def Dj (A B : List Nat) : Prop := ∀ u ∈ A, u ∉ B
theorem agr_app {L : List Nat} {rts : List (Nat × Nat)} {ds : List (Option Nat)} {o : Oper} {V W T : List Nat} {e : Eff} (he : EffIn V W T e) (h1 : Dj W (fpV rts ds o)) (h2 : Dj T (fpT L rts o)) (h3 : Dj W (fpT L rts o)) (s : St)
    (hr : (∀ t ∈ opnds ds o, rootOk rts s t) ∨ ∀ t ∈ opnds ds o, rootOk rts (s.app e) t) : Agr L rts ds o s (s.app e) ∧ (∀ t ∈ opnds ds o, rootOk rts s t) ∧ ∀ t ∈ opnds ds o, rootOk rts (s.app e) t := by
  have hv : ∀ t ∈ opnds ds o, t ∈ fpV rts ds o ∧ rootS rts t ∈ fpV rts ds o := fun t ht => ⟨List.mem_append_left _ ht, List.mem_append_right _ (List.mem_map.2 ⟨t, ht, rfl⟩)⟩
  have hval : ∀ t ∈ opnds ds o, s.val t = (s.app e).val t := by
    intro t ht
    cases e with
    | put src d a tk =>
      obtain ⟨e1, e2, e3⟩ := he
      have hne : t ≠ d := fun e => h1 d e1 (e ▸ (hv t ht).1)
      have hne2 : rootS rts t ≠ d := fun e => h1 d e1 (e ▸ (hv t ht).2)
      show s.val t = (s.put src d a tk).val t
      rw [St.put_val_ne _ _ _ _ hne]
      rcases hr with hr | hr
      · have hro := hr t ht
        unfold rootOk at hro
        refine (killR_in (V := [rootS rts t]) ?_ (by simp [Ne.symm hne2])).symm
        cases hA : s.val t with
        | ref r off => rw [hA] at hro; simp [AV.rootIn, hro]
        | cnd y b =>
          cases b with
          | ref r off => rw [hA] at hro; simp [AV.rootIn, hro]
          | _ => trivial
        | _ => trivial
      · have hro := hr t ht
        unfold rootOk at hro
        have hx : (s.app (.put src d a tk)).val t = (s.val t).killR d := St.put_val_ne _ _ _ _ hne
        rcases killR_or d (s.val t) with e | e
        · exact e.symm
        · rw [hx, e] at hro
          exact hro.elim
    | sto src r off T' cs as tk =>
      have hne : t ≠ r := fun e => h1 r he.1 (e ▸ (hv t ht).1)
      simp [St.app, St.sto, hne]
  have hro : ∀ t ∈ opnds ds o, rootOk rts s t ↔ rootOk rts (s.app e) t := fun t ht => by unfold rootOk; rw [hval t ht]
  refine ⟨⟨hval, fun t ht T' cs => ?_, fun t ht k => ?_⟩, ?_, ?_⟩
  · cases e with
    | put src d a tk =>
      have hne2 : rootS rts t ≠ d := fun e => h1 d he.1 (e ▸ (hv t ht).2)
      show _ ↔ (s.put src d a tk).val (rootS rts t) = _
      rw [St.put_val_ne _ _ _ _ hne2]
      exact killR_box'.symm
    | sto src r off T'' cs' as tk =>
      have hne : rootS rts t ≠ r := fun e => h1 r he.1 (e ▸ (hv t ht).2)
      simp [St.app, St.sto, hne]
  · cases e with
    | put src d a tk =>
      have hne : t ≠ d := fun e => h3 d he.1 (e ▸ ht)
      have hsrc : src t k = false := by
        cases hs : src t k with
        | false => rfl
        | true => exact absurd ht (h2 t (he.2.1 t k hs))
      simp [St.app, St.put, hne, hsrc]
    | sto src r off T'' cs' as tk =>
      have hne : t ≠ r := fun e => h3 r he.1 (e ▸ ht)
      have hsrc : src t k = false := by
        cases hs : src t k with
        | false => rfl
        | true => exact absurd ht (h2 t (he.2 t k hs))
      simp [St.app, St.sto, hne, hsrc]
  · rcases hr with hr | hr
    · exact hr
    · exact fun t ht => (hro t ht).2 (hr t ht)
  · rcases hr with hr | hr
    · exact fun t ht => (hro t ht).1 (hr t ht)
    · exact hr
theorem St.ext' {s s' : St} (h1 : ∀ u, s.val u = s'.val u) (h2 : ∀ t k, s.tok t k = s'.tok t k) : s = s' := by
  cases s
  cases s'
  simp only [St.mk.injEq]
  exact ⟨funext h1, funext fun t => funext (h2 t)⟩
theorem app_comm {V1 W1 T1 V2 W2 T2 : List Nat} {e1 e2 : Eff} (h1 : EffIn V1 W1 T1 e1) (h2 : EffIn V2 W2 T2 e2) (hw : Dj W1 W2) (a1 : Dj W1 V2) (a2 : Dj W2 V1) (b1 : Dj W1 T2) (b2 : Dj W2 T1) (s : St) : (s.app e1).app e2 = (s.app e2).app e1 := by
  cases e1 with
  | put src1 d1 x1 tk1 =>
    obtain ⟨p1, p2, p3⟩ := h1
    cases e2 with
    | put src2 d2 x2 tk2 =>
      obtain ⟨q1, q2, q3⟩ := h2
      have hne : d1 ≠ d2 := fun e => hw d1 p1 (e ▸ q1)
      have k1 : x1.killR d2 = x1 := killR_in p3 (a2 d2 q1)
      have k2 : x2.killR d1 = x2 := killR_in q3 (a1 d1 p1)
      have s1 : ∀ k, src1 d2 k = false := fun k => by
        cases hs : src1 d2 k with
        | false => rfl
        | true => exact absurd (p2 d2 k hs) (b2 d2 q1)
      have s2 : ∀ k, src2 d1 k = false := fun k => by
        cases hs : src2 d1 k with
        | false => rfl
        | true => exact absurd (q2 d1 k hs) (b1 d1 p1)
      refine St.ext' (fun u => ?_) (fun t k => ?_)
      · simp only [St.app, St.put]
        by_cases e : u = d2
        · subst e; simp [Ne.symm hne, k2]
        · by_cases e' : u = d1
          · subst e'; simp [hne, k1]
          · simp [e, e', killR_comm d1 d2]
      · simp only [St.app, St.put]
        by_cases e : t = d2
        · subst e; simp [Ne.symm hne, s1 k]
        · by_cases e' : t = d1
          · subst e'; simp [hne, s2 k]
          · simp only [e, e', if_false]
            cases src1 t k <;> cases src2 t k <;> simp
    | sto src2 r2 off2 T2 cs2 as2 tk2 =>
      obtain ⟨q1, q2⟩ := h2
      have hne : d1 ≠ r2 := fun e => hw d1 p1 (e ▸ q1)
      have s1 : ∀ k, src1 r2 k = false := fun k => by
        cases hs : src1 r2 k with
        | false => rfl
        | true => exact absurd (p2 r2 k hs) (b2 r2 q1)
      have s2 : ∀ k, src2 d1 k = false := fun k => by
        cases hs : src2 d1 k with
        | false => rfl
        | true => exact absurd (q2 d1 k hs) (b1 d1 p1)
      refine St.ext' (fun u => ?_) (fun t k => ?_)
      · simp only [St.app, St.put, St.sto]
        by_cases e : u = r2
        · subst e; simp [Ne.symm hne, AV.killR]
        · by_cases e' : u = d1
          · subst e'; simp [hne]
          · simp [e, e']
      · simp only [St.app, St.put, St.sto]
        by_cases e : t = r2
        · subst e
          simp only [true_and, Ne.symm hne, if_false, s1 k, Bool.false_eq_true]
        · by_cases e' : t = d1
          · subst e'; simp [hne, s2 k]
          · simp only [e, e', false_and, if_false]
            cases src1 t k <;> cases src2 t k <;> simp
  | sto src1 r1 off1 TT1 cs1 as1 tk1 =>
    obtain ⟨p1, p2⟩ := h1
    cases e2 with
    | put src2 d2 x2 tk2 =>
      obtain ⟨q1, q2, q3⟩ := h2
      have hne : r1 ≠ d2 := fun e => hw r1 p1 (e ▸ q1)
      have s1 : ∀ k, src1 d2 k = false := fun k => by
        cases hs : src1 d2 k with
        | false => rfl
        | true => exact absurd (p2 d2 k hs) (b2 d2 q1)
      have s2 : ∀ k, src2 r1 k = false := fun k => by
        cases hs : src2 r1 k with
        | false => rfl
        | true => exact absurd (q2 r1 k hs) (b1 r1 p1)
      refine St.ext' (fun u => ?_) (fun t k => ?_)
      · simp only [St.app, St.put, St.sto]
        by_cases e : u = r1
        · subst e; simp [hne, AV.killR]
        · by_cases e' : u = d2
          · subst e'; simp [Ne.symm hne]
          · simp [e, e']
      · simp only [St.app, St.put, St.sto]
        by_cases e : t = r1
        · subst e
          simp only [true_and, hne, if_false, s2 k, Bool.false_eq_true]
        · by_cases e' : t = d2
          · subst e'; simp [Ne.symm hne, s1 k]
          · simp only [e, e', false_and, if_false]
            cases src1 t k <;> cases src2 t k <;> simp
    | sto src2 r2 off2 TT2 cs2 as2 tk2 =>
      obtain ⟨q1, q2⟩ := h2
      have hne : r1 ≠ r2 := fun e => hw r1 p1 (e ▸ q1)
      have s1 : ∀ k, src1 r2 k = false := fun k => by
        cases hs : src1 r2 k with
        | false => rfl
        | true => exact absurd (p2 r2 k hs) (b2 r2 q1)
      have s2 : ∀ k, src2 r1 k = false := fun k => by
        cases hs : src2 r1 k with
        | false => rfl
        | true => exact absurd (q2 r1 k hs) (b1 r1 p1)
      refine St.ext' (fun u => ?_) (fun t k => ?_)
      · simp only [St.app, St.sto]
        by_cases e : u = r1
        · subst e; simp [hne]
        · by_cases e' : u = r2
          · subst e'; simp [Ne.symm hne]
          · simp [e, e']
      · simp only [St.app, St.sto]
        by_cases e : t = r1
        · subst e
          simp only [true_and, hne, false_and, if_false, s2 k, Bool.false_eq_true]
        · by_cases e' : t = r2
          · subst e'
            simp only [true_and, Ne.symm hne, false_and, if_false, s1 k, Bool.false_eq_true]
          · simp only [e, e', false_and, if_false]
            cases src1 t k <;> cases src2 t k <;> simp
end Go.Proofs.YtldnkeackphilaaGreatDoor
/- The calculus of values: whatever order a region draws, it comes to what it comes to in the text's order. -/
namespace Go.Proofs.YtldnkeackphilaaGreatDoor
open Go.RowKit

def apL (es : List Eff) (s : St) : St := es.foldl St.app s
theorem apL_append (a b : List Eff) (s : St) : apL (a ++ b) s = apL b (apL a s) := List.foldl_append ..
def sel (lst : Nat → Bool) : Nat → List Eff → List Eff
  | _, [] => []
  | k, e :: es => if lst k then e :: sel lst (k + 1) es else sel lst (k + 1) es
theorem sel_append (lst : Nat → Bool) : ∀ (a b : List Eff) (k : Nat), sel lst k (a ++ b) = sel lst k a ++ sel lst (k + a.length) b
  | [], b, k => rfl
  | e :: a, b, k => by
    simp only [List.cons_append, sel, sel_append lst a b (k + 1), List.length_cons, Nat.add_assoc, Nat.add_comm 1 a.length]
    split <;> simp
theorem sel_congr {l1 l2 : Nat → Bool} : ∀ (es : List Eff) (k : Nat), (∀ j, j < es.length → l1 (k + j) = l2 (k + j)) → sel l1 k es = sel l2 k es
  | [], _, _ => rfl
  | e :: es, k, h => by
    have h0 := h 0 (by simp)
    rw [Nat.add_zero] at h0
    have ih := sel_congr (l1 := l1) (l2 := l2) es (k + 1) fun j hj => by
      have h2 := h (j + 1) (by simp only [List.length_cons]; omega)
      have e : k + 1 + j = k + (j + 1) := (by omega)
      rw [e]
      exact h2
    simp only [sel]
    rw [h0, ih]
theorem sel_all {lst : Nat → Bool} : ∀ (es : List Eff) (k : Nat), (∀ j, j < es.length → lst (k + j) = true) → sel lst k es = es
  | [], _, _ => rfl
  | e :: es, k, h => by
    have h0 := h 0 (by simp)
    rw [Nat.add_zero] at h0
    have ih := sel_all es (k + 1) fun j hj => by
      have h2 := h (j + 1) (by simp only [List.length_cons]; omega)
      have e : k + 1 + j = k + (j + 1) := (by omega)
      rw [e]
      exact h2
    simp only [sel, h0, ih, if_true]
theorem sel_none {lst : Nat → Bool} : ∀ (es : List Eff) (k : Nat), (∀ j, j < es.length → lst (k + j) = false) → sel lst k es = []
  | [], _, _ => rfl
  | e :: es, k, h => by
    have h0 := h 0 (by simp)
    rw [Nat.add_zero] at h0
    have ih := sel_none es (k + 1) fun j hj => by
      have h2 := h (j + 1) (by simp only [List.length_cons]; omega)
      have e : k + 1 + j = k + (j + 1) := (by omega)
      rw [e]
      exact h2
    simp [sel, h0, ih]
theorem sel_mem {lst : Nat → Bool} : ∀ {es : List Eff} {k : Nat} {e : Eff}, e ∈ sel lst k es → ∃ j, es[j]? = some e ∧ lst (k + j) = true
  | [], _, _, h => by cases h
  | x :: es, k, e, h => by
    unfold sel at h
    split at h
    · next hk =>
      rcases List.mem_cons.1 h with rfl | h
      · exact ⟨0, rfl, hk⟩
      · obtain ⟨j, h1, h2⟩ := sel_mem h
        exact ⟨j + 1, h1, by rwa [show k + (j + 1) = k + 1 + j by omega]⟩
    · obtain ⟨j, h1, h2⟩ := sel_mem h
      exact ⟨j + 1, h1, by rwa [show k + (j + 1) = k + 1 + j by omega]⟩
def Comm (e e' : Eff) : Prop := ∀ s : St, (s.app e).app e' = (s.app e').app e
theorem apL_past {e : Eff} : ∀ (es : List Eff), (∀ e' ∈ es, Comm e e') → ∀ s, apL es (s.app e) = (apL es s).app e
  | [], _, _ => rfl
  | x :: es, h, s => by
    show apL es ((s.app e).app x) = (apL es (s.app x)).app e
    rw [h x (by simp) s, apL_past es (fun e' he => h e' (by simp [he]))]
def Safe (F : St → Prop) (e : Eff) : Prop := ∀ s, F (s.app e) ↔ F s
theorem sel_rem {F : St → Prop} {lst : Nat → Bool} : ∀ (es : List Eff) (k : Nat), (∀ (j : Nat) e, es[j]? = some e → lst (k + j) = false → Safe F e ∧ ∀ (j' : Nat) e', j < j' → es[j']? = some e' → lst (k + j') = true → Comm e e') → ∀ s, F (apL es s) → F (apL (sel lst k es) s)
  | [], _, _, _, h => h
  | x :: es, k, hyp, s, h => by
    have ih := sel_rem (F := F) (lst := lst) es (k + 1) (fun j e he hl => by
      obtain ⟨h1, h2⟩ := hyp (j + 1) e (by simpa using he) (by rwa [show k + (j + 1) = k + 1 + j by omega])
      exact ⟨h1, fun j' e' hj he' hl' => h2 (j' + 1) e' (by omega) (by simpa using he') (by rwa [show k + (j' + 1) = k + 1 + j' by omega])⟩) (s.app x) h
    unfold sel
    split
    · exact ih
    · next hk =>
      have hk : lst k = false := by simpa using hk
      obtain ⟨h1, h2⟩ := hyp 0 x rfl (by simpa using hk)
      rw [apL_past _ (fun e' he' => by
        obtain ⟨j, q1, q2⟩ := sel_mem he'
        exact h2 (j + 1) e' (by omega) (by simpa using q1) (by rwa [show k + (j + 1) = k + 1 + j by omega]))] at ih
      exact (h1 _).1 ih
theorem apL_safe {F : St → Prop} : ∀ (es : List Eff), (∀ e ∈ es, Safe F e) → ∀ s, F s → F (apL es s)
  | [], _, _, h => h
  | x :: es, hyp, s, h => apL_safe es (fun e he => hyp e (by simp [he])) (s.app x) ((hyp x (by simp) s).2 h)

def wD (P : Program) (N : Nat) (L : List Nat) (rts : List (Nat × Nat)) (ds : List (Option Nat)) : List Oper → (St → Prop) → St → Prop
  | [], Q, st => Q st
  | o :: rest, Q, st => (∀ t ∈ opnds ds o, rootOk rts st t) ∧ opV P N L ds o (fun e => e.rootIn (fpV rts ds o) ∧ wD P N L rts ds rest Q (st.app e)) st
def Fi (P : Program) (N : Nat) (L : List Nat) (rts : List (Nat × Nat)) (ds : List (Option Nat)) (o : Oper) (e : Eff) (s : St) : Prop := (∀ t ∈ opnds ds o, rootOk rts s t) ∧ opV P N L ds o (· = e) s
theorem wD_chain {P : Program} {N : Nat} {L : List Nat} {rts : List (Nat × Nat)} {ds : List (Option Nat)} {Q : St → Prop} : ∀ (os : List Oper) (s : St), wD P N L rts ds os Q s →
    ∃ es : List Eff, es.length = os.length ∧ Q (apL es s) ∧ ∀ (i : Nat) o, os[i]? = some o → ∃ e, es[i]? = some e ∧ e.rootIn (fpV rts ds o) ∧ Fi P N L rts ds o e (apL (es.take i) s)
  | [], s, h => ⟨[], rfl, h, fun i o hi => by simp at hi⟩
  | o :: os, s, h => by
    obtain ⟨h1, h2⟩ := h
    obtain ⟨e, ⟨h3, h4⟩, h5⟩ := opV_one h2
    obtain ⟨es, k1, k2, k3⟩ := wD_chain os _ h4
    refine ⟨e :: es, by simp [k1], k2, fun i o' hi => ?_⟩
    cases i with
    | zero =>
      simp only [List.getElem?_cons_zero, Option.some.injEq] at hi
      subst hi
      exact ⟨e, rfl, h3, h1, h5⟩
    | succ i =>
      simp only [List.getElem?_cons_succ] at hi
      obtain ⟨e', q1, q2, q3⟩ := k3 i o' hi
      exact ⟨e', by simpa using q1, q2, q3⟩
def cloL : List Oper → List (List Nat) → List (List Nat)
  | [], acc => acc
  | o :: os, acc => cloL os (acc ++ [((o.after.toList.filter (Region.binds .any)).flatMap fun e => e.on :: acc.getD e.on []).eraseDups])
def djB (A B : List Nat) : Bool := A.all fun u => !B.contains u
def apartB (L : List Nat) (rts : List (Nat × Nat)) (ds : List (Option Nat)) (o o' : Oper) : Bool :=
  djB (fpW rts o) (fpW rts o') && djB (fpW rts o) (fpV rts ds o') && djB (fpW rts o') (fpV rts ds o) && djB (fpT L rts o) (fpT L rts o') && djB (fpW rts o) (fpT L rts o') && djB (fpW rts o') (fpT L rts o)
def drawOk (L : List Nat) (rts : List (Nat × Nat)) (ops : List Oper) : Bool :=
  let ds := ops.map (·.dst)
  let clo := cloL ops []
  (List.range ops.length).all (fun i => ((ops.getD i default).after.toList.filter (Region.binds .any)).all fun e => decide (e.on < i)) &&
  (List.range ops.length).all fun i => (List.range i).all fun k => (clo.getD i []).contains k || apartB L rts ds (ops.getD i default) (ops.getD k default)
theorem djB_spec {A B : List Nat} (h : djB A B = true) : Dj A B := fun u hu hb => by
  have := List.all_eq_true.1 h u hu
  simp [hb] at this
theorem Dj.symm {A B : List Nat} (h : Dj A B) : Dj B A := fun u hu hb => h u hb hu
theorem cloL_spec {S : Nat → Prop} : ∀ (os : List Oper) (acc : List (List Nat)), (∀ (i : Nat) o, os[i]? = some o → S (acc.length + i) → ∀ e ∈ o.after, Region.binds .any e = true → S e.on) → (∀ k, S k → ∀ u ∈ acc.getD k [], S u) → ∀ k, S k → ∀ u ∈ (cloL os acc).getD k [], S u
  | [], acc, _, h => h
  | o :: os, acc, hos, h => by
    refine cloL_spec os _ (fun i o' hi hS => ?_) ?_
    · refine hos (i + 1) o' (by simpa using hi) ?_
      rwa [List.length_append, List.length_singleton, Nat.add_assoc, Nat.add_comm 1 i] at hS
    · intro k hk u hu
      rw [List.getD_eq_getElem?_getD] at hu
      by_cases hlt : k < acc.length
      · rw [List.getElem?_append_left hlt] at hu
        exact h k hk u (by rwa [List.getD_eq_getElem?_getD])
      · by_cases he : k = acc.length
        · subst he
          rw [List.getElem?_append_right (Nat.le_refl _)] at hu
          simp only [Nat.sub_self, List.getElem?_cons_zero, Option.getD_some] at hu
          rw [List.mem_eraseDups, List.mem_flatMap] at hu
          obtain ⟨e, he, hu⟩ := hu
          obtain ⟨he1, he2⟩ := List.mem_filter.1 he
          have hS := hos 0 o rfl hk e (by simpa using he1) he2
          rcases List.mem_cons.1 hu with rfl | hu
          · exact hS
          · exact h _ hS u hu
        · rw [List.getElem?_eq_none (by simp; omega)] at hu
          cases hu
def cntF : List Bool → Nat
  | [] => 0
  | b :: l => (if b then 0 else 1) + cntF l
theorem cntF_set : ∀ {l : List Bool} {i : Nat}, l[i]? = some false → cntF (l.set i true) + 1 = cntF l
  | [], _, h => by simp at h
  | b :: l, 0, h => by simp at h; subst h; simp [cntF]; omega
  | b :: l, i + 1, h => by
    have := cntF_set (l := l) (i := i) (by simpa using h)
    simp only [List.set_cons_succ, cntF]
    omega
theorem cntF_zero : ∀ {l : List Bool}, cntF l = 0 → ∀ i, i < l.length → l[i]? = some true
  | [], _, i, h => by simp at h
  | b :: l, h, i, hi => by
    simp only [cntF] at h
    cases b with
    | false => simp at h
    | true =>
      cases i with
      | zero => rfl
      | succ i => simpa using cntF_zero (l := l) (by simpa using h) i (by simpa using hi)
theorem cntF_rep (n : Nat) : cntF (List.replicate n false) = n := by
  induction n with
  | zero => rfl
  | succ n ih => simp [List.replicate_succ, cntF, ih]; omega
end Go.Proofs.YtldnkeackphilaaGreatDoor
/- The calculus of values: a region that draws its order comes to its precondition. -/
namespace Go.Proofs.YtldnkeackphilaaGreatDoor
open Go.RowKit

structure Ord (L : List Nat) (rts : List (Nat × Nat)) (ops : Array Oper) : Prop where
  low : ∀ (i : Nat) o, ops[i]? = some o → ∀ e ∈ o.after, Region.binds .any e = true → e.on < i
  apart : ∀ (i k : Nat) oi ok, k < i → ops[i]? = some oi → ops[k]? = some ok → k ∈ (cloL ops.toList []).getD i [] ∨ apartB L rts (ops.toList.map (·.dst)) oi ok = true
theorem ord_of {L : List Nat} {rts : List (Nat × Nat)} {ops : Array Oper} (h : drawOk L rts ops.toList = true) : Ord L rts ops := by
  unfold drawOk at h
  simp only [Bool.and_eq_true, List.all_eq_true, List.mem_range] at h
  obtain ⟨h1, h2⟩ := h
  have hget : ∀ (i : Nat) o, ops[i]? = some o → i < ops.toList.length ∧ ops.toList.getD i default = o := fun i o hi => by
    have hlt := (Array.getElem?_eq_some_iff.1 hi).1
    refine ⟨by simpa using hlt, ?_⟩
    rw [List.getD_eq_getElem?_getD, Array.getElem?_toList, hi]
    rfl
  refine ⟨fun i o hi e he hb => ?_, fun i k oi ok hk hi hok => ?_⟩
  · obtain ⟨q1, q2⟩ := hget i o hi
    have := h1 i q1
    rw [q2] at this
    have := this e (List.mem_filter.2 ⟨by simpa using he, hb⟩)
    simpa using this
  · obtain ⟨q1, q2⟩ := hget i oi hi
    obtain ⟨q3, q4⟩ := hget k ok hok
    have := h2 i q1 k hk
    rw [q2, q4] at this
    rcases Bool.or_eq_true _ _ ▸ this with h | h
    · exact .inl (by simpa using h)
    · exact .inr h
theorem draws {P : Program} {N : Nat} {L : List Nat} {rts : List (Nat × Nat)} {ops : Array Oper} (hO : Ord L rts ops) {QQ : Exit → Act → World → Prop} {Q : St → Prop} {G0 : Gh} {O0 : Om} {w0 : World} {s0 : St} {es : List Eff} (hlen : es.length = ops.size) (hQ : Q (apL es s0))
    (hC : ∀ (i : Nat) o, ops[i]? = some o → ∃ e, es[i]? = some e ∧ e.rootIn (fpV rts (ops.toList.map (·.dst)) o) ∧ Fi P N L rts (ops.toList.map (·.dst)) o e (apL (es.take i) s0)) (hK : Cont P N G0 O0 w0 (QQ .normal) Q) :
    ∀ (fuel : Nat) (listed : Array Bool) {G : Gh} {O : Om} {w : World} {a : Act}, listed.size = ops.size → cntF listed.toList ≤ fuel → (∀ (k : Nat) o, ops[k]? = some o → listed.getD k false = true → ∀ e ∈ o.after, Region.binds .any e = true → listed.getD e.on false = true) →
      a.defers = [] → Rl P N G O w a.tmps (apL (sel (fun k => listed.getD k false) 0 es) s0) → Fr G0 O0 w0 G O w → wpAny P .any ops QQ fuel listed a w := by
  have hEff : ∀ (i : Nat) o e, ops[i]? = some o → es[i]? = some e → EffIn (fpV rts (ops.toList.map (·.dst)) o) (fpW rts o) (fpT L rts o) e := fun i o e ho he => by
    obtain ⟨e', h1, h2, h3, h4⟩ := hC i o ho
    rw [he] at h1
    cases h1
    exact effIn_of h3 h4 h2
  have hops : ∀ (i : Nat) e, es[i]? = some e → ∃ o, ops[i]? = some o := fun i e he => by
    have := (List.getElem?_eq_some_iff.1 he).1
    exact ⟨_, Array.getElem?_eq_getElem (by omega)⟩
  have hap : ∀ (i k : Nat) oi ok ei ek, apartB L rts (ops.toList.map (·.dst)) oi ok = true → ops[i]? = some oi → ops[k]? = some ok → es[i]? = some ei → es[k]? = some ek → Comm ei ek ∧ Comm ek ei ∧ Safe (Fi P N L rts (ops.toList.map (·.dst)) oi ei) ek ∧ Safe (Fi P N L rts (ops.toList.map (·.dst)) ok ek) ei := by
    intro i k oi ok ei ek h hi hk hei hek
    unfold apartB at h
    simp only [Bool.and_eq_true] at h
    obtain ⟨⟨⟨⟨⟨h1, h2⟩, h3⟩, h4⟩, h5⟩, h6⟩ := h
    have h1 := djB_spec h1
    have h2 := djB_spec h2
    have h3 := djB_spec h3
    have h4 := djB_spec h4
    have h5 := djB_spec h5
    have h6 := djB_spec h6
    have ei' := hEff i oi ei hi hei
    have ek' := hEff k ok ek hk hek
    have c1 : Comm ei ek := fun s => app_comm ei' ek' h1 h2 h3 h5 h6 s
    refine ⟨c1, fun s => (c1 s).symm, fun s => ⟨fun ⟨q1, q2⟩ => ?_, fun ⟨q1, q2⟩ => ?_⟩, fun s => ⟨fun ⟨q1, q2⟩ => ?_, fun ⟨q1, q2⟩ => ?_⟩⟩
    · obtain ⟨r1, r2, r3⟩ := agr_app (L := L) (ds := ops.toList.map (·.dst)) (o := oi) ek' h3 h4.symm h6 s (.inr q1)
      exact ⟨r2, opV_congr ⟨fun t ht => (r1.val t ht).symm, fun t ht T cs => (r1.box t ht T cs).symm, fun t ht k => (r1.tok t ht k).symm⟩ r3 q2⟩
    · obtain ⟨r1, r2, r3⟩ := agr_app (L := L) (ds := ops.toList.map (·.dst)) (o := oi) ek' h3 h4.symm h6 s (.inl q1)
      exact ⟨r3, opV_congr r1 r2 q2⟩
    · obtain ⟨r1, r2, r3⟩ := agr_app (L := L) (ds := ops.toList.map (·.dst)) (o := ok) ei' h2 h4 h5 s (.inr q1)
      exact ⟨r2, opV_congr ⟨fun t ht => (r1.val t ht).symm, fun t ht T cs => (r1.box t ht T cs).symm, fun t ht k => (r1.tok t ht k).symm⟩ r3 q2⟩
    · obtain ⟨r1, r2, r3⟩ := agr_app (L := L) (ds := ops.toList.map (·.dst)) (o := ok) ei' h2 h4 h5 s (.inl q1)
      exact ⟨r3, opV_congr r1 r2 q2⟩
  have done : ∀ (listed : Array Bool) {G : Gh} {O : Om} {w : World} {a : Act}, listed.size = ops.size → (∀ i, i < ops.size → listed.getD i false = true) → a.defers = [] → Rl P N G O w a.tmps (apL (sel (fun k => listed.getD k false) 0 es) s0) → Fr G0 O0 w0 G O w → QQ .normal a w := by
    intro listed G O w a hs hall hd hr hf
    rw [sel_all es 0 (fun j hj => by rw [Nat.zero_add]; exact hall j (by omega))] at hr
    exact hK a w G O _ hd hr hf hQ
  have noready : ∀ (listed : Array Bool), listed.size = ops.size → Region.ready .any ops listed = [] → ∀ i, i < ops.size → listed.getD i false = true := by
    intro listed hs hr i
    induction i using Nat.strongRecOn with
    | _ i ih =>
      intro hi
      cases hl : listed.getD i false with
      | true => rfl
      | false =>
        exfalso
        have hm : i ∈ Region.ready .any ops listed := by
          rw [mem_ready]
          refine ⟨?_, _, Array.getElem?_eq_getElem hi, fun e he hb => ?_⟩
          · rw [Array.getD_eq_getD_getElem?, Array.getElem?_eq_getElem (by omega)] at hl ⊢
            exact hl
          · exact ih e.on (hO.low i _ (Array.getElem?_eq_getElem hi) e he hb) (by have := hO.low i _ (Array.getElem?_eq_getElem hi) e he hb; omega)
        rw [hr] at hm
        cases hm
  intro fuel
  induction fuel with
  | zero =>
    intro listed G O w a hs hc hcl hd hr hf
    have hall : ∀ i, i < ops.size → listed.getD i false = true := fun i hi => by
      have := cntF_zero (Nat.le_zero.1 hc) i (by simpa [hs] using hi)
      rw [Array.getElem?_toList] at this
      rw [Array.getD_eq_getD_getElem?, this]
      rfl
    refine ⟨?_, done listed hs hall hd hr hf⟩
    cases hrd : Region.ready .any ops listed with
    | nil => rfl
    | cons i l =>
      have hm : i ∈ Region.ready .any ops listed := by rw [hrd]; simp
      obtain ⟨h0, o, ho, _⟩ := mem_ready.1 hm
      have hi := (Array.getElem?_eq_some_iff.1 ho).1
      have := hall i hi
      rw [Array.getD_eq_getD_getElem?, Array.getElem?_eq_getElem (by omega)] at this h0
      simp only [Option.getD_some] at this h0
      rw [this] at h0
      cases h0
  | succ fuel ih =>
    intro listed G O w a hs hc hcl hd hr hf
    refine ⟨fun hrd => done listed hs (noready listed hs hrd) hd hr hf, fun i hm => ?_⟩
    obtain ⟨h0, o, ho, hready⟩ := mem_ready.1 hm
    have hi := (Array.getElem?_eq_some_iff.1 ho).1
    have hli : listed[i]? = some false := by
      rw [Array.getD_eq_getD_getElem?, Array.getElem?_eq_getElem (by omega)] at h0
      rw [Array.getElem?_eq_getElem (by omega)]
      simpa using h0
    have hlF : listed.getD i false = false := by rw [Array.getD_eq_getD_getElem?, hli]; rfl
    obtain ⟨e, he, hroot, hF⟩ := hC i o ho
    have hil : i < es.length := by omega
    -- what the order knows
    let S : Nat → Prop := fun k => listed.getD k false = true
    have hSclo : ∀ k, S k → ∀ u ∈ (cloL ops.toList []).getD k [], S u := cloL_spec (S := S) ops.toList [] (fun k o' hk hS e he hb => hcl k o' (by simpa using hk) (by have h := hS; simp only [List.length_nil, Nat.zero_add] at h; exact h) e he hb) (fun k _ u hu => by simp at hu)
    have hSi : ∀ u ∈ (cloL ops.toList []).getD i [], S u := by
      have := cloL_spec (S := fun k => S k ∨ k = i) ops.toList [] (fun k o' hk hS e he hb => by
        simp only [List.length_nil, Nat.zero_add] at hS
        have hk' : ops[k]? = some o' := by simpa using hk
        rcases hS with hS | rfl
        · exact .inl (hcl k o' hk' hS e he hb)
        · rw [ho] at hk'
          cases hk'
          exact .inl (hready e he hb)) (fun k _ u hu => by simp at hu)
      intro u hu
      rcases this i (.inr rfl) u hu with h | rfl
      · exact h
      · exfalso
        -- nothing waits for itself
        have hlow : ∀ k, True → ∀ v ∈ (cloL ops.toList []).getD k [], v < k := by
          have key : ∀ (os : List Oper) (acc : List (List Nat)), (∀ (j : Nat) o', os[j]? = some o' → ∀ e ∈ o'.after, Region.binds .any e = true → e.on < acc.length + j) → (∀ k, ∀ v ∈ acc.getD k [], v < k) → ∀ k, ∀ v ∈ (cloL os acc).getD k [], v < k := by
            intro os
            induction os with
            | nil => exact fun acc _ h => h
            | cons o' os ihos =>
              intro acc h1 h2
              refine ihos _ (fun j o'' hj e he hb => ?_) ?_
              · have := h1 (j + 1) o'' (by simpa using hj) e he hb
                simp only [List.length_append, List.length_singleton]
                omega
              · intro k v hv
                rw [List.getD_eq_getElem?_getD] at hv
                by_cases hlt : k < acc.length
                · rw [List.getElem?_append_left hlt] at hv
                  exact h2 k v (by rwa [List.getD_eq_getElem?_getD])
                · by_cases hek : k = acc.length
                  · subst hek
                    rw [List.getElem?_append_right (Nat.le_refl _)] at hv
                    simp only [Nat.sub_self, List.getElem?_cons_zero, Option.getD_some] at hv
                    rw [List.mem_eraseDups, List.mem_flatMap] at hv
                    obtain ⟨e, he, hv⟩ := hv
                    obtain ⟨he1, he2⟩ := List.mem_filter.1 he
                    have hlo := h1 0 o' rfl e (by simpa using he1) he2
                    rcases List.mem_cons.1 hv with rfl | hv
                    · omega
                    · have := h2 _ v hv
                      omega
                  · rw [List.getElem?_eq_none (by simp; omega)] at hv
                    cases hv
          intro k _
          exact key ops.toList [] (fun j o' hj e he hb => by simpa using hO.low j o' (by simpa using hj) e he hb) (fun k v hv => by simp at hv) k
        have := hlow u trivial u hu
        omega
    -- the text's effects, parted at i
    have hsplit : es = es.take i ++ e :: es.drop (i + 1) := by
      have := (List.getElem?_eq_some_iff.1 he).2
      rw [← this, ← List.drop_eq_getElem_cons hil, List.take_append_drop]
    have htake : (es.take i).length = i := by simp; omega
    let lst : Nat → Bool := fun k => listed.getD k false
    have hselA : sel lst 0 es = sel lst 0 (es.take i) ++ sel lst (i + 1) (es.drop (i + 1)) := by
      conv => lhs; rw [hsplit]
      rw [sel_append, htake, Nat.zero_add]
      simp only [sel, lst, hlF, Bool.false_eq_true, if_false]
    have hget : ∀ (j : Nat) x, (es.take i)[j]? = some x → j < i ∧ es[j]? = some x := fun j x hj => by
      have hlt := (List.getElem?_eq_some_iff.1 hj).1
      rw [htake] at hlt
      rw [List.getElem?_take_of_lt hlt] at hj
      exact ⟨hlt, hj⟩
    have hF1 : Fi P N L rts (ops.toList.map (·.dst)) o e (apL (sel lst 0 (es.take i)) s0) := by
      refine sel_rem (F := Fi P N L rts (ops.toList.map (·.dst)) o e) (es.take i) 0 (fun j x hj hl => ?_) s0 hF
      obtain ⟨hji, hjx⟩ := hget j x hj
      obtain ⟨oj, hoj⟩ := hops j x hjx
      rw [Nat.zero_add] at hl
      refine ⟨?_, fun j' x' hjj hj' hl' => ?_⟩
      · rcases hO.apart i j o oj hji ho hoj with h | h
        · have := hSi j h
          simp only [S] at this
          simp only [lst] at hl
          rw [hl] at this
          cases this
        · exact (hap i j o oj e x h ho hoj he hjx).2.2.1
      · obtain ⟨hji', hjx'⟩ := hget j' x' hj'
        obtain ⟨oj', hoj'⟩ := hops j' x' hjx'
        rw [Nat.zero_add] at hl'
        rcases hO.apart j' j oj' oj hjj hoj' hoj with h | h
        · have := hSclo j' hl' j h
          simp only [S] at this
          simp only [lst] at hl
          rw [hl] at this
          cases this
        · exact (hap j' j oj' oj x' x h hoj' hoj hjx' hjx).2.1
    have hB : ∀ x ∈ sel lst (i + 1) (es.drop (i + 1)), Comm e x ∧ Safe (Fi P N L rts (ops.toList.map (·.dst)) o e) x := by
      intro x hx
      obtain ⟨j, hj, hl⟩ := sel_mem hx
      rw [List.getElem?_drop] at hj
      obtain ⟨oj, hoj⟩ := hops _ x hj
      rcases hO.apart (i + 1 + j) i oj o (by omega) hoj ho with h | h
      · have := hSclo (i + 1 + j) hl i h
        simp only [S] at this
        rw [hlF] at this
        cases this
      · obtain ⟨q1, q2, q3, q4⟩ := hap (i + 1 + j) i oj o x e h hoj ho hj he
        exact ⟨q2, q4⟩
    have hF2 : Fi P N L rts (ops.toList.map (·.dst)) o e (apL (sel lst 0 es) s0) := by
      rw [hselA, apL_append]
      exact apL_safe _ (fun x hx => (hB x hx).2) _ hF1
    have hnew : (apL (sel lst 0 es) s0).app e = apL (sel (fun k => (listed.setIfInBounds i true).getD k false) 0 es) s0 := by
      have h1 : sel (fun k => (listed.setIfInBounds i true).getD k false) 0 es = sel lst 0 (es.take i) ++ e :: sel lst (i + 1) (es.drop (i + 1)) := by
        conv => lhs; rw [hsplit]
        rw [sel_append, htake, Nat.zero_add]
        have ht : (listed.setIfInBounds i true).getD i false = true := by simp [hs, hi]
        simp only [sel, ht, if_true]
        congr 1
        · exact sel_congr _ _ fun j hj => by
            rw [htake] at hj
            simp only [lst, Nat.zero_add]
            exact getD_set_ne false (by omega)
        · congr 1
          exact sel_congr _ _ fun j hj => by
            simp only [lst]
            exact getD_set_ne false (by omega)
      rw [h1, apL_append, hselA, apL_append]
      exact (apL_past _ (fun x hx => (hB x hx).1) _).symm
    unfold wpOp
    rw [ho]
    have hsnd := op_sound (QQ := QQ) (K := wpAny P .any ops QQ fuel (listed.setIfInBounds i true)) (ops := ops) rfl hd hr hF2.2 fun a' w' G' O' h1 h2 h3 => by
      refine ih (listed.setIfInBounds i true) (by simp [hs]) ?_ ?_ h1 (by rw [← hnew]; exact h2) (hf.trans h3)
      · have := cntF_set (l := listed.toList) (i := i) (by simpa using hli)
        simp only [Array.toList_setIfInBounds]
        omega
      · intro k o' hk hlk e' he' hb
        by_cases hki : k = i
        · subst hki
          rw [ho] at hk
          cases hk
          exact getD_set_true (hready e' he' hb)
        · rw [getD_set_ne false (Ne.symm hki)] at hlk
          exact getD_set_true (hcl k o' hk hlk e' he' hb)
    simp only
    split
    · next hw => rw [if_pos hw] at hsnd; exact .inl hsnd
    · next hw => rw [if_neg hw] at hsnd; exact hsnd
end Go.Proofs.YtldnkeackphilaaGreatDoor
