/- The linear calculus: code, loops, functions. -/
import Derived.Test.YtldnkeackphilaaGreatDoorNd7
set_option linter.unusedSimpArgs false
set_option linter.unusedVariables false
namespace Go.Proofs.YtldnkeackphilaaGreatDoor.X
open Go.RowKit

def ascV : List (Nat × AV) → Nat → AV
  | [], _ => .dead
  | p :: l, u => if u = p.1 then p.2 else ascV l u
def ascB : List (Nat × Blk) → Nat → Option Blk
  | [], _ => none
  | p :: l, n => if n = p.1 then some p.2 else ascB l n
def ascU (d : Bool) : List (Nat × Bool) → Nat → Bool
  | [], _ => d
  | p :: l, n => if n = p.1 then p.2 else ascU d l n
def St.asc (vs : List (Nat × AV)) (bs : List (Nat × Blk)) (us : List (Nat × Bool)) (d : Bool) : St := ⟨ascV vs, ascB bs, ascU d us⟩
def trimA : AV → AV
  | .cnd _ _ => .dead
  | a => a
def litV (st : St) : List Nat → List (Nat × AV)
  | [] => []
  | t :: l => (t, trimA (st.val t)) :: litV st l
def consB (n : Nat) (r : List (Nat × Blk)) : Option Blk → List (Nat × Blk)
  | some B => (n, B) :: r
  | none => r
def litB (st : St) : List Nat → List (Nat × Blk)
  | [] => []
  | n :: l => consB n (litB st l) (st.blk n)
def litU (st : St) : List Nat → List (Nat × Bool)
  | [] => []
  | n :: l => (n, st.usd n) :: litU st l
def lit (nv nb : List Nat) (st : St) : St := St.asc (litV st nv) (litB st nb) (litU st nb) true
inductive Own where
  | slot (t m : Nat) (E : TypeId)
  | cell (n off m : Nat) (E : TypeId)
def ownV (st : St) (t m : Nat) (E : TypeId) : AV → St
  | .nl => if st.usd m then st else (((st.setB m (some (.row E []))).use m).putv t (.rw m 0 0))
  | _ => st
def ownD (st : St) (n off m : Nat) (E : TypeId) (T : TypeId) (cs : List AV) : AV → St
  | .nl => if st.usd m then st else (((st.setB m (some (.row E []))).use m).setB n (some (.box T (spliceL cs off [.rw m 0 0]))))
  | _ => st
def ownC (st : St) (n off m : Nat) (E : TypeId) : Option Blk → St
  | some (.box T cs) => ownD st n off m E T cs (cs.getD off .dead)
  | _ => st
def St.own1 (st : St) : Own → St
  | .slot t m E => ownV st t m E (st.val t)
  | .cell n off m E => ownC st n off m E (st.blk n)
def St.ownL (st : St) : List Own → St
  | [] => st
  | o :: l => (st.own1 o).ownL l
inductive Sg where
  | keep (n : Nat)
  | slot (t m : Nat)
  | cell (n off m : Nat)
def nameA : AV → List Nat
  | .rw k _ _ => [k]
  | .ref k _ => [k]
  | .elt k _ _ => [k]
  | _ => []
def nameC (off : Nat) : Option Blk → List Nat
  | some (.box _ cs) => nameA (cs.getD off .dead)
  | _ => []
def toN (m : Nat) : List Nat → List (Nat × Nat)
  | [] => []
  | k :: l => (k, m) :: toN m l
def sg1 (st : St) : Sg → List (Nat × Nat)
  | .keep n => [(n, n)]
  | .slot t m => toN m (nameA (st.val t))
  | .cell n off m => toN m (nameC off (st.blk n))
def sgL (st : St) : List Sg → List (Nat × Nat)
  | [] => []
  | g :: l => sg1 st g ++ sgL st l
def dom (σ : List (Nat × Nat)) : List Nat := σ.map (·.1)
def relA (σ : List (Nat × Nat)) (a : AV) : AV := if subset (refsA (trimA a)) (dom σ) then fixA (renA (asN σ) (trimA a)) else .dead
def relV (st : St) (σ : List (Nat × Nat)) : List Nat → List (Nat × AV)
  | [] => []
  | t :: l => (t, relA σ (st.val t)) :: relV st σ l
def relK (σ : List (Nat × Nat)) (m : Nat) (r : List (Nat × Blk)) : Option Blk → List (Nat × Blk)
  | some B => if subset (refsK B) (dom σ) then (m, fixK (renK (asN σ) B)) :: r else r
  | none => r
def relB (st : St) (σ : List (Nat × Nat)) : List (Nat × Nat) → List (Nat × Blk)
  | [] => []
  | p :: l => relK σ p.2 (relB st σ l) (st.blk p.1)
def relU : List (Nat × Nat) → List (Nat × Bool)
  | [] => []
  | p :: l => (p.2, true) :: relU l
def relab (σ : List (Nat × Nat)) (kp : List Nat) (st : St) : St := St.asc (relV st σ kp) (relB st σ σ) (relU σ) false
def ndB : List Nat → Bool
  | [] => true
  | n :: l => !l.contains n && ndB l
def sgOk (K : List Nat) (σ : List (Nat × Nat)) : Bool := ndB (σ.map (·.1)) && ndB (σ.map (·.2)) && K.all fun n => σ.contains (n, n)
def edge (ow : List Own) (sg : List Sg) (kp : List Nat) (st : St) : St := relab (sgL (st.ownL ow) sg) kp (st.ownL ow)
def edgeOk (K : List Nat) (ow : List Own) (sg : List Sg) (st : St) : Bool := sgOk K (sgL (st.ownL ow) sg)
def opn1 (st : St) (n : Nat) : Option Blk → St
  | some B => if pureK B then ⟨fun u => subA n (fixK B) (st.val u), opnB n (fixK B) st.blk, st.usd⟩ else st
  | none => st
def St.opnL (st : St) : List Nat → St
  | [] => st
  | n :: ns => (opn1 st n (st.blk n)).opnL ns
mutual
theorem pure_fix : ∀ b : AV, pureA b = true → pureA (fixA b) = true
  | .imm _, _ => rfl
  | .sl _, _ => rfl
  | .ptr _, _ => rfl
  | .nl, _ => rfl
  | .agg cs, h => by simp only [fixA, pureA] at h ⊢; exact pureL_fix cs h
  | .tup cs, h => by simp only [fixA, pureA] at h ⊢; exact pureL_fix cs h
  | .ifc _ a, h => by simp only [fixA, pureA] at h ⊢; exact pure_fix a h
  | .box _ _, h => by cases h
  | .ref _ _, h => by cases h
  | .cnd _ _, h => by cases h
  | .dead, h => by cases h
  | .elt _ _ _, h => by cases h
  | .rw _ _ _, h => by cases h
  | .fnc _ _, h => by cases h
theorem pureL_fix : ∀ l : List AV, pureL l = true → pureL (fixL l) = true
  | [], _ => rfl
  | a :: l, h => by
    simp only [pureL, fixL, Bool.and_eq_true] at h ⊢
    exact ⟨pure_fix a h.1, pureL_fix l h.2⟩
end
mutual
theorem fix_fix : ∀ b : AV, fixA (fixA b) = fixA b
  | .imm _ => rfl
  | .sl _ => rfl
  | .ptr _ => rfl
  | .nl => rfl
  | .agg cs => by simp only [fixA, fixL_fix cs]
  | .tup cs => by simp only [fixA, fixL_fix cs]
  | .ifc _ a => by simp only [fixA, fix_fix a]
  | .box _ _ => rfl
  | .ref _ _ => rfl
  | .cnd _ _ => rfl
  | .dead => rfl
  | .elt _ _ _ => rfl
  | .rw _ _ _ => rfl
  | .fnc _ _ => rfl
theorem fixL_fix : ∀ l : List AV, fixL (fixL l) = fixL l
  | [] => rfl
  | a :: l => by simp only [fixL, fix_fix a, fixL_fix l]
end
theorem nd_spec : ∀ {l : List Nat}, ndB l = true → l.Nodup
  | [], _ => List.nodup_nil
  | n :: l, h => by
    simp only [ndB, Bool.and_eq_true, Bool.not_eq_true', List.contains_eq_mem, decide_eq_false_iff_not] at h
    exact List.nodup_cons.2 ⟨h.1, nd_spec h.2⟩
theorem trim_rn {G : Gh} {ν : Nu} {v : Value} {a : AV} (h : RV2 G ν v a) : RV2 G ν v (trimA a) := by
  cases h with
  | x h => cases a <;> first | exact .x h | exact .dead _
  | cnd => exact .dead _
  | dead => exact .dead _
theorem trim_or {G : Gh} {ν : Nu} {v : Value} {a : AV} (h : RV2 G ν v a) : RN G ν v (trimA a) ∨ trimA a = .dead := by
  cases h with
  | x h => cases a <;> first | exact .inl h | exact .inr rfl
  | cnd => exact .inr rfl
  | dead => exact .inr rfl
theorem litV_val (st : St) (u : Nat) : ∀ l : List Nat, ascV (litV st l) u = if u ∈ l then trimA (st.val u) else .dead
  | [] => rfl
  | k :: l => by
    simp only [litV, ascV, litV_val st u l, List.mem_cons]
    by_cases h : u = k
    · subst h; simp
    · simp [h]
theorem litB_blk (st : St) (u : Nat) : ∀ l : List Nat, ascB (litB st l) u = if u ∈ l then st.blk u else none
  | [] => rfl
  | k :: l => by
    simp only [litB, List.mem_cons]
    by_cases h : u = k
    · subst h
      cases hb : st.blk u with
      | none =>
        simp only [consB, litB_blk st u l, hb]
        simp
      | some B => simp [consB, ascB]
    · cases hb : st.blk k with
      | none => simp [consB, litB_blk st u l, h]
      | some B => simp [consB, ascB, litB_blk st u l, h]
theorem litU_usd (st : St) (d : Bool) (u : Nat) : ∀ l : List Nat, ascU d (litU st l) u = if u ∈ l then st.usd u else d
  | [] => rfl
  | k :: l => by
    simp only [litU, ascU, litU_usd st d u l, List.mem_cons]
    by_cases h : u = k
    · subst h; simp
    · simp [h]
section
variable {P : Program} {N : Nat} {C : Cx} {G : Gh} {ν : Nu} {w : World} {tm : Array Value} {st : St}
theorem Inv.lit (h : Inv P N C G ν w tm st) (nv nb : List Nat) : Inv P N C G ν w tm (X.lit nv nb st) := by
  have hb : ∀ n B, (X.lit nv nb st).blk n = some B → st.blk n = some B := fun n B hB => by
    have hB : ascB (litB st nb) n = some B := hB
    rw [litB_blk] at hB
    split at hB
    · exact hB
    · cases hB
  have hs : ∀ n, ((X.lit nv nb st).blk n).isSome = true → (st.blk n).isSome = true := fun n hn => by
    obtain ⟨B, hB⟩ := Option.isSome_iff_exists.1 hn
    rw [hb n B hB]
    rfl
  refine ⟨h.size, h.cells, fun t => ?_, fun n B hB => h.blks n B (hb n B hB), fun n m g hn hm => h.inj n m g (hs n hn) (hs m hm), fun n hn => ?_, fun n g hn => h.own n g (hs n hn), h.fr, h.kpt⟩
  · show RV2 G ν _ (ascV (litV st nv) t)
    rw [litV_val]
    split
    · exact trim_rn (h.vals t)
    · exact .dead _
  · have hn : ascU true (litU st nb) n = false := hn
    rw [litU_usd] at hn
    split at hn
    · exact h.news n hn
    · cases hn
theorem Inv.reval (h : Inv P N C G ν w tm st) {f : Nat → AV} (hf : ∀ t, RV2 G ν (tm.getD t undef) (f t)) : Inv P N C G ν w tm ⟨f, st.blk, st.usd⟩ := ⟨h.size, h.cells, hf, h.blks, h.inj, h.news, h.own, h.fr, h.kpt⟩
theorem Inv.nilrow (h : Inv P N C G ν w tm st) {m : Nat} (hm : st.usd m = false) (E : TypeId) : Inv P N C G (ν.set m ⟨none, 0, szP P E⟩) w tm ((st.setB m (some (.row E []))).use m) :=
  h.new hm ⟨none, 0, szP P E⟩ (.row E []) rfl rfl rfl (Nat.le_refl _) (fun _ _ => rfl) (fun g hg => by cases hg) ⟨fun e he => by simp at he, .inl ⟨0, Nu.set_eq _ _ _, rfl⟩⟩
theorem Inv.own1 (h : Inv P N C G ν w tm st) (o : Own) : ∃ ν', Inv P N C G ν' w tm (st.own1 o) := by
  cases o with
  | slot t m E =>
    have hv := h.vals t
    simp only [St.own1]
    generalize hA : st.val t = A at hv
    cases A with
    | nl =>
      simp only [ownV]
      by_cases hu : st.usd m = true
      · rw [if_pos hu]; exact ⟨ν, h⟩
      · rw [if_neg hu]
        have hu : st.usd m = false := by simpa using hu
        have hn := h.nilrow hu E
        refine ⟨_, hn.reval (f := fun u => if u = t then .rw m 0 0 else st.val u) fun u => ?_⟩
        by_cases e : u = t
        · subst e
          rw [if_pos rfl]
          cases hv with
          | x hv => rw [hv.nlI]; exact .x (.rw0 m 0 _ (Nu.set_eq _ _ _))
        · rw [if_neg e]; exact hn.vals u
    | _ => exact ⟨ν, h⟩
  | cell n off m E =>
    simp only [St.own1]
    cases hB : st.blk n with
    | none => exact ⟨ν, h⟩
    | some B =>
      cases B with
      | row => exact ⟨ν, h⟩
      | box T cs =>
        simp only [ownC]
        generalize hA : cs.getD off .dead = A
        cases A with
        | nl =>
          simp only [ownD]
          by_cases hu : st.usd m = true
          · rw [if_pos hu]; exact ⟨ν, h⟩
          · rw [if_neg hu]
            have hu : st.usd m = false := by simpa using hu
            have hn := h.nilrow hu E
            have hnm : n ≠ m := by rintro rfl; rw [(h.none_of hu).2] at hB; cases hB
            have hoff : cs[off]? = some .nl := by
              rw [List.getD_eq_getElem?_getD] at hA
              cases hc : cs[off]? with
              | none => rw [hc] at hA; cases hA
              | some a => rw [hc] at hA; simp at hA; rw [hA]
            have hlt := (List.getElem?_eq_some_iff.1 hoff).1
            obtain ⟨g, cap, sz, k1, k2, vs, k3, k4, k5⟩ := hn.blks n (.box T cs) (by simp [St.use, St.setB, hnm, hB])
            refine ⟨_, hn.chg (n := n) (g := g) (by simp [St.use, St.setB, hnm, hB]) (by simp [blkOf, k1]) rfl rfl rfl (Nat.le_refl _) (fun _ _ _ => rfl) ⟨g, cap, sz, k1, k2, vs, k3, ?_, fun j v a hv ha => ?_⟩⟩
            · rw [splice_len (by simp; omega)]; exact k4
            · rw [splice_get (by simp; omega)] at ha
              by_cases hj : off ≤ j ∧ j < off + 1
              · rw [if_pos (by simpa using hj)] at ha
                obtain rfl : j = off := by omega
                simp at ha
                subst ha
                obtain ⟨q1, q2⟩ := k5 j v _ hv hoff
                rw [q2.nlI]
                exact ⟨rfl, .rw0 m 0 _ (Nu.set_eq _ _ _)⟩
              · rw [if_neg (by simpa using hj)] at ha
                exact k5 j v a hv ha
        | _ => exact ⟨ν, h⟩
theorem Inv.ownL : ∀ (l : List Own) {ν : Nu} {st : St}, Inv P N C G ν w tm st → ∃ ν', Inv P N C G ν' w tm (st.ownL l)
  | [], ν, _, h => ⟨ν, h⟩
  | o :: l, _, _, h => by
    obtain ⟨ν1, h1⟩ := h.own1 o
    exact Inv.ownL l h1
theorem nd_fst {σ : List (Nat × Nat)} (h : (σ.map (·.1)).Nodup) {p q : Nat × Nat} (hp : p ∈ σ) (hq : q ∈ σ) (e : p.1 = q.1) : p = q := by
  induction σ with
  | nil => cases hp
  | cons r σ ih =>
    simp only [List.map_cons, List.nodup_cons] at h
    rcases List.mem_cons.1 hp with hp' | hp' <;> rcases List.mem_cons.1 hq with hq' | hq'
    · rw [hp', hq']
    · subst hp'; exact absurd (e ▸ List.mem_map_of_mem hq') h.1
    · subst hq'; exact absurd (e ▸ List.mem_map_of_mem hp') h.1
    · exact ih h.2 hp' hq'
theorem nd_snd {σ : List (Nat × Nat)} (h : (σ.map (·.2)).Nodup) {p q : Nat × Nat} (hp : p ∈ σ) (hq : q ∈ σ) (e : p.2 = q.2) : p = q := by
  induction σ with
  | nil => cases hp
  | cons r σ ih =>
    simp only [List.map_cons, List.nodup_cons] at h
    rcases List.mem_cons.1 hp with hp' | hp' <;> rcases List.mem_cons.1 hq with hq' | hq'
    · rw [hp', hq']
    · subst hp'; exact absurd (e ▸ List.mem_map_of_mem hq') h.1
    · subst hq'; exact absurd (e ▸ List.mem_map_of_mem hp') h.1
    · exact ih h.2 hp' hq'
def relNu (σ : List (Nat × Nat)) (ν : Nu) : Nu := fun m => match σ.find? (fun q => q.2 == m) with
  | some q => ν q.1
  | none => none
theorem relNu_at {σ : List (Nat × Nat)} (h : (σ.map (·.2)).Nodup) {p : Nat × Nat} (hp : p ∈ σ) : relNu σ ν p.2 = ν p.1 := by
  unfold relNu
  cases hf : σ.find? (fun q => q.2 == p.2) with
  | none =>
    rw [List.find?_eq_none] at hf
    exact absurd (hf p hp) (by simp)
  | some q =>
    have h1 := List.mem_of_find?_eq_some hf
    have h2 := List.find?_some hf
    have : q = p := nd_snd h h1 hp (by simpa using h2)
    rw [this]
theorem relNu_out {σ : List (Nat × Nat)} {m : Nat} (h : m ∉ σ.map (·.2)) : relNu σ ν m = none := by
  unfold relNu
  have : σ.find? (fun q => q.2 == m) = none := by
    rw [List.find?_eq_none]
    intro q hq e
    exact h (by simp only [beq_iff_eq] at e; exact e ▸ List.mem_map_of_mem hq)
  rw [this]
theorem relNu_asN {σ : List (Nat × Nat)} (h2 : (σ.map (·.2)).Nodup) {n : Nat} (hn : n ∈ dom σ) : relNu σ ν (asN σ n) = ν n := by
  obtain ⟨q, q1, q2, q3⟩ := asN_mem hn
  rw [q3, relNu_at h2 q1, q2]
theorem BlkR.fixK {n : Nat} {B : Blk} (h : BlkR P G ν w n B) : BlkR P G ν w n (fixK B) := by
  cases B with
  | box T cs =>
    obtain ⟨g, cap, sz, h1, h2, vs, h3, h4, h5⟩ := h
    refine ⟨g, cap, sz, h1, h2, vs, h3, by rw [fixL_len]; exact h4, fun j v b hv hb => ?_⟩
    rw [fixL_get] at hb
    obtain ⟨c, hc, rfl⟩ := Option.map_eq_some_iff.1 hb
    exact ⟨(h5 j v c hv hc).1, (h5 j v c hv hc).2.fix⟩
  | row E es => exact h
theorem relB_blk (st : St) (σ : List (Nat × Nat)) (m : Nat) (B : Blk) : ∀ l : List (Nat × Nat), ascB (relB st σ l) m = some B → ∃ p ∈ l, p.2 = m ∧ ∃ B0, st.blk p.1 = some B0 ∧ subset (refsK B0) (dom σ) = true ∧ B = fixK (renK (asN σ) B0)
  | [], h => by cases h
  | p :: l, h => by
    have ih := relB_blk st σ m B l
    simp only [relB] at h
    cases hb : st.blk p.1 with
    | none =>
      rw [hb] at h
      obtain ⟨q, q1, q2⟩ := ih h
      exact ⟨q, by simp [q1], q2⟩
    | some B0 =>
      rw [hb] at h
      simp only [relK] at h
      by_cases hs : subset (refsK B0) (dom σ) = true
      · rw [if_pos hs] at h
        simp only [ascB] at h
        by_cases e : m = p.2
        · rw [if_pos e] at h
          cases h
          exact ⟨p, by simp, e.symm, B0, hb, hs, rfl⟩
        · rw [if_neg e] at h
          obtain ⟨q, q1, q2⟩ := ih h
          exact ⟨q, by simp [q1], q2⟩
      · rw [if_neg hs] at h
        obtain ⟨q, q1, q2⟩ := ih h
        exact ⟨q, by simp [q1], q2⟩
theorem relV_val (st : St) (σ : List (Nat × Nat)) (u : Nat) : ∀ l : List Nat, ascV (relV st σ l) u = if u ∈ l then relA σ (st.val u) else .dead
  | [] => rfl
  | k :: l => by
    simp only [relV, ascV, relV_val st σ u l, List.mem_cons]
    by_cases h : u = k
    · subst h; simp
    · simp [h]
theorem relU_usd (m : Nat) : ∀ σ : List (Nat × Nat), ascU false (relU σ) m = true ↔ m ∈ σ.map (·.2)
  | [] => by simp [relU, ascU]
  | p :: σ => by
    simp only [relU, ascU, List.map_cons, List.mem_cons]
    by_cases e : m = p.2
    · simp [e]
    · rw [if_neg e, relU_usd m σ]
      simp [e]
theorem Inv.relab (h : Inv P N C G ν w tm st) {K : List Nat} {σ : List (Nat × Nat)} (hok : sgOk K σ = true) (hK : ∀ n x, C.K n = some x → n ∈ K) (kp : List Nat) : Inv P N C G (relNu σ ν) w tm (X.relab σ kp st) := by
  unfold sgOk at hok
  simp only [Bool.and_eq_true] at hok
  obtain ⟨⟨h1, h2⟩, h3⟩ := hok
  have h1 := nd_spec h1
  have h2 := nd_spec h2
  have hb : ∀ m B, (X.relab σ kp st).blk m = some B → ∃ p ∈ σ, p.2 = m ∧ ∃ B0, st.blk p.1 = some B0 ∧ subset (refsK B0) (dom σ) = true ∧ B = X.fixK (renK (asN σ) B0) := fun m B hB => relB_blk st σ m B σ hB
  refine ⟨h.size, h.cells, fun t => ?_, fun m B hB => ?_, fun m m' g hm hm' e1 e2 => ?_, fun m hm => ?_, fun m g hm e => ?_, h.fr, fun n x hx => ?_⟩
  · show RV2 G _ _ (ascV (relV st σ kp) t)
    rw [relV_val]
    split
    · unfold relA
      split
      · next hs =>
        rcases trim_or (h.vals t) with hv | hv
        · refine .x (RN.fix (hv.ren fun n hn x hx => ?_))
          rw [relNu_asN h2 (subset_mem hs hn)]
          exact hx
        · rw [hv]; exact .dead _
      · exact .dead _
    · exact .dead _
  · obtain ⟨p, p1, rfl, B0, p2, p3, rfl⟩ := hb m B hB
    have := (h.blks p.1 B0 p2).ren (τ := asN σ) (ν' := relNu σ ν) (relNu_asN h2 (List.mem_map_of_mem p1)) fun k hk x hx => by
      rw [relNu_asN h2 (subset_mem p3 hk)]
      exact hx
    have e : asN σ p.1 = p.2 := by
      obtain ⟨q, q1, q2, q3⟩ := asN_mem (List.mem_map_of_mem (f := (·.1)) p1)
      rw [q3, nd_fst h1 q1 p1 q2]
    rw [e] at this
    exact this.fixK
  · obtain ⟨B, hB⟩ := Option.isSome_iff_exists.1 hm
    obtain ⟨B', hB'⟩ := Option.isSome_iff_exists.1 hm'
    obtain ⟨p, p1, rfl, B0, p2, -⟩ := hb m B hB
    obtain ⟨q, q1, rfl, B1, q2, -⟩ := hb m' B' hB'
    simp only [blkOf, relNu_at h2 p1] at e1
    simp only [blkOf, relNu_at h2 q1] at e2
    have := h.inj p.1 q.1 g (by rw [p2]; rfl) (by rw [q2]; rfl) e1 e2
    rw [nd_fst h1 p1 q1 this]
  · refine relNu_out fun hc => ?_
    have := (relU_usd m σ).2 hc
    have hm : ascU false (relU σ) m = false := hm
    rw [this] at hm
    cases hm
  · obtain ⟨B, hB⟩ := Option.isSome_iff_exists.1 hm
    obtain ⟨p, p1, rfl, B0, p2, -⟩ := hb m B hB
    simp only [blkOf, relNu_at h2 p1] at e
    exact h.own p.1 g (by rw [p2]; rfl) e
  · have hn := List.all_eq_true.1 h3 n (hK n x hx)
    have hn : (n, n) ∈ σ := by simpa using hn
    have := relNu_at (ν := ν) h2 hn
    rw [this]
    exact h.kpt n x hx
theorem Inv.edge (h : Inv P N C G ν w tm st) {K : List Nat} {ow : List Own} {sg : List Sg} (hok : edgeOk K ow sg st = true) (hK : ∀ n x, C.K n = some x → n ∈ K) (kp : List Nat) : ∃ ν', Inv P N C G ν' w tm (X.edge ow sg kp st) := by
  obtain ⟨ν1, h1⟩ := Inv.ownL ow h
  exact ⟨_, h1.relab hok hK kp⟩
theorem Inv.opn1 (h : Inv P N C G ν w tm st) (n : Nat) : ∃ G', Inv P N C G' ν w tm (X.opn1 st n (st.blk n)) := by
  cases hB : st.blk n with
  | none => exact ⟨G, h⟩
  | some B =>
    simp only [X.opn1]
    by_cases hp : pureK B = true
    · rw [if_pos hp]
      have hbn := h.blks n B hB
      obtain ⟨G1, h1, h2, h3, h4⟩ := h.frz (n := n) (by rw [hB]; rfl) hbn hp
      refine ⟨G1, h1.size, h1.cells, fun t => ?_, fun m B' hm => ?_, fun m m' g hm hm' => h1.inj m m' g ?_ ?_, h1.news, fun m g hm => h1.own m g ?_, h1.fr, h1.kpt⟩
      · have hv := h.vals t
        show RV2 G1 ν _ (subA n (fixK B) (st.val t))
        generalize st.val t = A at hv
        cases hv with
        | x hv => exact .x (h3 _ _ hv)
        | cnd y v a q1 q2 => exact .cnd y _ a (fun hy => (q1 hy).mono h2 (.refl _)) q2
        | dead => exact .dead _
      · simp only [opnB] at hm
        split at hm
        · cases hm
        · next e =>
          obtain ⟨B0, hB0, rfl⟩ := Option.map_eq_some_iff.1 hm
          exact (h.blks m B0 hB0).sub h2 h3 fun g hg => h4 g fun e' => e (h.inj m n g (by rw [hB0]; rfl) (by rw [hB]; rfl) hg e')
      all_goals
        have key : ∀ m, (opnB n (fixK B) st.blk m).isSome = true → ((st.setB n none).blk m).isSome = true := fun m hm => by
          simp only [opnB] at hm
          split at hm
          · cases hm
          · next e => simpa [St.setB, e] using hm
        exact key _ (by assumption)
    · rw [if_neg hp]; exact ⟨G, h⟩
theorem Inv.opnL : ∀ (ns : List Nat) {G : Gh} {st : St}, Inv P N C G ν w tm st → ∃ G', Inv P N C G' ν w tm (st.opnL ns)
  | [], G, _, h => ⟨G, h⟩
  | n :: ns, _, _, h => by
    obtain ⟨G1, h1⟩ := h.opn1 n
    exact Inv.opnL ns h1
end
end Go.Proofs.YtldnkeackphilaaGreatDoor.X
namespace Go.Proofs.YtldnkeackphilaaGreatDoor.X
open Go.RowKit

def drawsAll (rts : List (Nat × List Nat)) : Code → Bool
  | .region _ ops true => drawOk rts ops.toList
  | .seq x y => drawsAll rts x && drawsAll rts y
  | .cond _ x y => drawsAll rts x && drawsAll rts y
  | .block _ x => drawsAll rts x
  | .loop x => drawsAll rts x
  | _ => true
structure Hint where
  nv : List Nat
  nb : List Nat
  rts : List (Nat × List Nat)
  fz : List (Nat × List Nat)
  K : List Nat
def seqK (K : Code → (Exit → St → Prop) → St → Prop) (y : Code) (Q : Exit → St → Prop) (e : Exit) (s : St) : Prop := match e with
  | .normal => K y Q s
  | e => Q e s
def blkK (id : Nat) (Q : Exit → St → Prop) (e : Exit) (s : St) : Prop := match e with
  | .exit id' => if id' = id then Q .normal s else Q (.exit id') s
  | e => Q e s
def loopK {α : Type} (K : List Nat) (ow : List Own) (sg : List Sg) (kp : List Nat) (S : α → St) (I : α → Prop) (m : α → Nat) (n : Nat) (Q : Exit → St → Prop) (e : Exit) (s : St) : Prop := match e with
  | .normal => edgeOk K ow sg s = true ∧ ∃ a, edge ow sg kp s = S a ∧ I a ∧ m a < n
  | e => Q e s
def wF (P : Program) (N : Nat) (h : Hint) : Code → (Exit → St → Prop) → St → Prop
  | .skip, Q, st => Q .normal st
  | .region id ops false, Q, st => wR P N (ops.toList.map (·.dst)) ops.toList (fun s => Q .normal (lit h.nv h.nb s)) (st.opnL (rootsOf h.fz id))
  | .region id ops true, Q, st => wD P N h.rts (ops.toList.map (·.dst)) ops.toList (fun s => Q .normal (lit h.nv h.nb s)) (st.opnL (rootsOf h.fz id))
  | .seq x y, Q, st => wF P N h x (seqK (fun _ => wF P N h y) y Q) st
  | .cond c x y, Q, st => st.ok true c ∧ ∃ b, st.get c = .imm (.bool b) ∧ (b = true → wF P N h x Q st) ∧ (b = false → wF P N h y Q st)
  | .block id x, Q, st => wF P N h x (blkK id Q) st
  | .loop x, Q, st => ∃ (ow : List Own) (sg : List Sg) (kp : List Nat) (α : Type) (S : α → St) (I : α → Prop) (m : α → Nat), (edgeOk h.K ow sg st = true ∧ ∃ a, edge ow sg kp st = S a ∧ I a) ∧ ∀ a, I a → wF P N h x (loopK h.K ow sg kp S I m (m a) Q) (S a)
  | .exit id, Q, st => Q (.exit id) st
  | .ret, Q, st => Q .ret st
  | _, _, _ => False
def PostC (P : Program) (N : Nat) (C : Cx) (Q : Exit → St → Prop) : Exit → Act → World → Prop := fun e a' w' => a'.defers = [] ∧ ∃ G' ν' st', Inv P N C G' ν' w' a'.tmps st' ∧ Q e st'
theorem wF_sound {P : Program} (hmx : P.follows .mixedOrders = true) {N : Nat} {hi : Hint} {C : Cx} (hK : ∀ n x, C.K n = some x → n ∈ hi.K) : ∀ (c : Code), drawsAll hi.rts c = true → ∀ {Q : Exit → St → Prop} {st : St} {G : Gh} {ν : Nu} {w : World} {a : Act}, a.defers = [] → Inv P N C G ν w a.tmps st → wF P N hi c Q st → c.wp P (PostC P N C Q) a w := by
  intro c
  induction c with
  | skip => exact fun _ _ _ _ _ _ _ hd h hs => wp_skip ⟨hd, _, _, _, h, hs⟩
  | region id ops draw =>
    intro hdr Q st G ν w a hd h hs
    obtain ⟨G1, h1⟩ := Inv.opnL (rootsOf hi.fz id) h
    have hcont : ∀ s, Q .normal (lit hi.nv hi.nb s) → Cont P N C (PostC P N C Q .normal) s := fun s hq a' w' G' ν' k1 k2 => ⟨k1, G', ν', _, k2.lit hi.nv hi.nb, hq⟩
    cases draw with
    | false => exact wp_region_list (wR_sound rfl hcont _ hd h1 hs)
    | true =>
      obtain ⟨es, e1, e2, e3⟩ := wD_chain ops.toList _ hs
      refine wp_region_any hmx (draws (C := C) (G := G1) (ν := ν) (ord_of hdr) (by simpa using e1) e2 (fun i o hi => e3 i o (by simpa using hi)) hcont ops.size (Array.replicate ops.size false) (by simp) (by simp [cntF_rep]) (fun k o hk hl => ?_) hd ?_)
      · exfalso
        rw [Array.getD_eq_getD_getElem?, Array.getElem?_replicate] at hl
        split at hl <;> cases hl
      · rw [sel_none es 0 (fun j hj => by rw [Array.getD_eq_getD_getElem?, Array.getElem?_replicate]; split <;> rfl)]
        exact h1.world rfl rfl rfl rfl
  | seq x y ihx ihy =>
    intro hdr Q st G ν w a hd h hs
    simp only [drawsAll, Bool.and_eq_true] at hdr
    refine wp_seq (wp_mono (ihx hdr.1 hd h hs) fun e a1 w1 hp => ?_)
    obtain ⟨h1, G1, O1, s1, h2, h4⟩ := hp
    cases e with
    | normal => exact ihy hdr.2 h1 h2 h4
    | _ => exact ⟨h1, G1, O1, s1, h2, h4⟩
  | cond c x y ihx ihy =>
    intro hdr Q st G ν w a hd h hs
    simp only [drawsAll, Bool.and_eq_true] at hdr
    obtain ⟨h1, b, h2, h3, h4⟩ := hs
    have hv := get_sound h rfl h1
    rw [h2] at hv
    refine wp_cond hv.immI.1 ?_
    cases b with
    | true => exact ihx hdr.1 hd h (h3 rfl)
    | false => exact ihy hdr.2 hd h (h4 rfl)
  | block id x ih =>
    intro hdr Q st G ν w a hd h hs
    refine wp_block (wp_mono (ih hdr hd h hs) fun e a1 w1 hp => ?_)
    cases e with
    | exit id' =>
      obtain ⟨h1, G1, O1, s1, h2, h4⟩ := hp
      simp only [Exit.inBlock]
      by_cases e : id' = id
      · rw [if_pos e]
        simp only [blkK, e, if_true] at h4
        exact ⟨h1, G1, O1, s1, h2, h4⟩
      · rw [if_neg e]
        simp only [blkK, e, if_false] at h4
        exact ⟨h1, G1, O1, s1, h2, h4⟩
    | _ => exact hp
  | loop x ih =>
    intro hdr Q st G ν w a hd h hs
    obtain ⟨ow, sg, kp, α, S, I, μ, ⟨hok, a0, hS0, hI0⟩, hround⟩ := hs
    obtain ⟨ν0, h0⟩ := h.edge hok hK kp
    rw [hS0] at h0
    have key : ∀ n, ∀ b, μ b = n → I b → ∀ G1 ν1 w1 (a1 : Act), a1.defers = [] → Inv P N C G1 ν1 w1 a1.tmps (S b) → ∀ bb k cs, ∃ e a' w', PostC P N C Q e a' w' ∧ Arrives P (lone (bb.at a1 (.code x :: .inLoop x :: k)) cs w1) bb k cs e a' w' := by
      intro n
      induction n using Nat.strongRecOn with
      | _ n ihn =>
        intro b hn hI G1 ν1 w1 a1 hd1 hr1 bb k cs
        obtain ⟨e, a2, w2, hp, harr⟩ := ih hdr hd1 hr1 (hround b hI) bb (.inLoop x :: k) cs
        obtain ⟨h1, G2, ν2, s2, h2, h4⟩ := hp
        cases e with
        | normal =>
          obtain ⟨hok2, b2, hS2, hI2, hlt⟩ := h4
          obtain ⟨ν3, h3⟩ := h2.edge hok2 hK kp
          rw [hS2] at h3
          obtain ⟨e3, a3, w3, hp3, harr3⟩ := ihn (μ b2) (hn ▸ hlt) b2 rfl hI2 G2 ν3 w2 a2 h1 h3 bb k cs
          exact ⟨e3, a3, w3, hp3, .of_steps (Steps.trans harr (.one step_inLoop)) harr3⟩
        | exit id => exact ⟨_, a2, w2, ⟨h1, G2, ν2, s2, h2, h4⟩, .pass (x := .inLoop x) rfl (fun _ _ => .inl (by simp)) harr⟩
        | goto l => exact ⟨_, a2, w2, ⟨h1, G2, ν2, s2, h2, h4⟩, .pass (x := .inLoop x) rfl (fun _ _ => .inl (by simp)) harr⟩
        | ret => exact ⟨_, a2, w2, ⟨h1, G2, ν2, s2, h2, h4⟩, .pass (x := .inLoop x) rfl (fun _ _ => .inl (by simp)) harr⟩
        | panic ch => exact ⟨_, a2, w2, ⟨h1, G2, ν2, s2, h2, h4⟩, .pass (x := .inLoop x) rfl (fun _ _ => .inl (by simp)) harr⟩
        | outgrown => exact ⟨_, a2, w2, ⟨h1, G2, ν2, s2, h2, h4⟩, .pass (x := .inLoop x) rfl (fun _ _ => .inl (by simp)) harr⟩
    intro b k cs
    obtain ⟨e, a', w', hq, harr⟩ := key _ a0 rfl hI0 G ν0 w a hd h0 b k cs
    exact ⟨e, a', w', hq, .of_steps (.one step_loop) harr⟩
  | exit id => exact fun _ _ _ _ _ _ _ hd h hs => wp_exit ⟨hd, _, _, _, h, hs⟩
  | ret => exact fun _ _ _ _ _ _ _ hd h hs => wp_ret ⟨hd, _, _, _, h, hs⟩
  | _ => exact fun _ _ _ _ _ _ _ _ _ hs => hs.elim
def resA (P : Program) (st : St) : ResultVar → AV
  | .tmp t => unC' (st.val t)
  | .cell t T => ldA P T (st.at (unC' (st.val t)))
def resC (P : Program) (st : St) : ResultVar → Prop
  | .tmp t => okV true (st.val t)
  | .cell t T => okV true (st.val t) ∧ st.atC true (unC' (st.val t)) ∧ ldC P T (st.at (unC' (st.val t)))
def resCL (P : Program) (s : St) : List ResultVar → Prop
  | [] => True
  | r :: l => resC P s r ∧ resCL P s l
def resAL (P : Program) (s : St) : List ResultVar → List AV
  | [] => []
  | r :: l => resA P s r :: resAL P s l
def packA : List AV → AV
  | [a] => a
  | l => .tup l
def reach : Nat → (Nat → Option Blk) → List Nat → List Nat → List Nat
  | 0, _, acc, _ => acc
  | _ + 1, _, acc, [] => acc
  | k + 1, blk, acc, n :: l => reach k blk (if acc.contains n then acc else match blk n with
      | some B => reach k blk acc (refsK B) ++ [n]
      | none => acc) l
def endP (P : Program) (s : St) (a : AV) (rs : List ResultVar) : Prop := resCL P s rs ∧ ∃ ns, frzOk s.blk ns ∧ pureL ((resAL P s rs).map (frzF s.blk ns)) = true ∧ packA (fixL ((resAL P s rs).map (frzF s.blk ns))) = a
def endS (P : Program) (rs : List ResultVar) (a : AV) (e : Exit) (s : St) : Prop := match e with
  | .normal => endP P s a rs
  | .ret => endP P s a rs
  | _ => False
def endHs (P : Program) (fr : List Nat) (ow : List Own) (sg : List Sg) (K : List Nat) (rs : List ResultVar) (a : AV) (H' : List (Nat × Blk)) (s : St) : Prop :=
  edgeOk K ow sg (s.opnL fr) = true ∧ resCL P ((s.opnL fr).ownL ow) rs ∧ subset (refsL (resAL P ((s.opnL fr).ownL ow) rs)) (dom (sgL ((s.opnL fr).ownL ow) sg)) = true ∧
    packA (fixL (renL (asN (sgL ((s.opnL fr).ownL ow) sg)) (resAL P ((s.opnL fr).ownL ow) rs))) = a ∧ relB ((s.opnL fr).ownL ow) (sgL ((s.opnL fr).ownL ow) sg) (sgL ((s.opnL fr).ownL ow) sg) = H'
def endH (P : Program) (fr : List Nat) (ow : List Own) (sg : List Sg) (K : List Nat) (rs : List ResultVar) (a : AV) (H' : List (Nat × Blk)) (e : Exit) (s : St) : Prop := match e with
  | .normal => endHs P fr ow sg K rs a H' s
  | .ret => endHs P fr ow sg K rs a H' s
  | _ => False
def St.args (args : List AV) (H : List (Nat × Blk)) : St := ⟨fun t => args.getD t .dead, ascB H, fun n => (H.map (·.1)).contains n⟩
theorem pack_rn {G : Gh} {ν : Nu} {f : ResultVar → Value} {g : ResultVar → AV} : ∀ (rs : List ResultVar), (∀ r ∈ rs, RN G ν (f r) (g r)) → RN G ν (match rs with | [r] => f r | rs => Value.tuple (rs.map f).toArray) (packA (rs.map g))
  | [], _ => .tup _ _ rfl fun j v a hv ha => by simp at ha
  | [r], h => h r (by simp)
  | r :: r' :: l, h => by
    show RN G ν (.tuple ((r :: r' :: l).map f).toArray) (.tup ((r :: r' :: l).map g))
    generalize r :: r' :: l = L at h
    refine .tup _ _ (by simp) fun j v a hv ha => ?_
    simp only [List.getElem?_toArray, List.getElem?_map] at hv ha
    cases hr : L[j]? with
    | none => rw [hr] at hv; cases hv
    | some q =>
      rw [hr] at hv ha
      simp only [Option.map_some, Option.some.injEq] at hv ha
      subst hv ha
      exact h q (List.mem_of_getElem? hr)
section
variable {P : Program} {N : Nat} {C : Cx} {G : Gh} {ν : Nu} {w : World} {tm : Array Value} {st : St}
theorem resCL_mem : ∀ {rs : List ResultVar}, resCL P st rs → ∀ r ∈ rs, resC P st r
  | [], _, r, hr => by cases hr
  | x :: l, h, r, hr => (List.mem_cons.1 hr).elim (fun e => e ▸ h.1) (resCL_mem h.2 r)
theorem resAL_map : ∀ (rs : List ResultVar), resAL P st rs = rs.map (resA P st)
  | [] => rfl
  | x :: l => by rw [resAL, resAL_map l]; rfl
theorem res_sound (h : Inv P N C G ν w tm st) {r : ResultVar} (hc : resC P st r) : (∀ t T, r = .cell t T → (do loadVar T (← asAddr (tm.getD t undef)) : Sem Value).run P w = .ok (resV tm w P r) w) ∧ RN G ν (resV tm w P r) (resA P st r) := by
  cases r with
  | tmp t => exact ⟨fun t T e => (by cases e), get_sound (a := ⟨tm, []⟩) (x := .tmp t) h rfl hc⟩
  | cell t T =>
    obtain ⟨h0, h1, h2⟩ := hc
    have hv := get_sound (a := ⟨tm, []⟩) (x := .tmp t) h rfl h0
    have hv : RN G ν (tm.getD t undef) (unC' (st.val t)) := hv
    obtain ⟨g, o, hx, hl⟩ := at_sound h hv h1
    obtain ⟨v, k1, k2⟩ := run_ldN (P := P) hl h2
    have hrun : (do loadVar T (← asAddr (tm.getD t undef)) : Sem Value).run P w = .ok v w := by
      have : (Instr.loadAt T (.pointer (some ⟨g, o, none⟩))).run P w = (loadVar T ⟨g, o, none⟩).run P w := by simp [Instr.loadAt, Instr.sureAddr]
      rw [this] at k1
      simp [hx, asAddr, k1]
    have hrv : resV tm w P (.cell t T) = v := by
      simp only [resV, hrun]
    rw [hrv]
    exact ⟨fun t' T' e => (by cases e; exact hrun), k2⟩
theorem asc_lookup : ∀ {H : List (Nat × Blk)} {n : Nat} {B : Blk}, ascB H n = some B → (n, B) ∈ H
  | [], _, _, h => by cases h
  | p :: l, n, B, h => by
    simp only [ascB] at h
    by_cases e : n = p.1
    · rw [if_pos e] at h
      cases h
      subst e
      simp
    · rw [if_neg e] at h
      exact List.mem_cons_of_mem _ (asc_lookup h)
theorem args_inv {G : Gh} {ν : Nu} {w : World} {vals : Array Value} {args : List AV} {H : List (Nat × Blk)} {N : Nat} (hc : CellsR G w) (hb : ∀ p ∈ H, BlkR P G ν w p.1 p.2) (hi : ∀ p ∈ H, ∀ q ∈ H, ∀ g, blkOf ν p.1 = some g → blkOf ν q.1 = some g → p.1 = q.1) (hn : ∀ n, n ∉ H.map (·.1) → ν n = none)
    (hl : vals.size = args.length) (hv : ∀ (i : Nat) v b, vals[i]? = some v → args[i]? = some b → RN G ν v b) (hN : args.length ≤ N) (K : List Nat) : Inv P N ⟨G, w, fun g => ∃ q ∈ H, blkOf ν q.1 = some g, fun n => if n ∈ K then ν n else none⟩ G ν w (vals ++ Array.replicate (N - vals.size) undef) (St.args args H) := by
  have hH : ∀ n B, (St.args args H).blk n = some B → (n, B) ∈ H := fun n B h => asc_lookup h
  refine ⟨by simp; omega, hc, fun t => ?_, fun n B hB => hb _ (hH n B hB), fun n m g h1 h2 e1 e2 => ?_, fun n h => hn n ?_, fun n g h1 e1 => ?_, ⟨rfl, rfl, rfl, Nat.le_refl _, .refl _, fun _ _ _ => ⟨rfl, rfl⟩⟩, fun n x hx => ?_⟩
  · by_cases ht : t < args.length
    · have h1 : vals[t]? = some vals[t] := Array.getElem?_eq_getElem (by omega)
      have h2 : args[t]? = some args[t] := List.getElem?_eq_getElem ht
      have h3 : (vals ++ Array.replicate (N - vals.size) undef).getD t undef = vals[t] := by
        rw [Array.getD_eq_getD_getElem?, Array.getElem?_append_left (by omega), h1]
        rfl
      have h4 : (St.args args H).val t = args[t] := by simp [St.args, ht]
      rw [h3, h4]
      exact .x (hv t _ _ h1 h2)
    · have h4 : (St.args args H).val t = .dead := by simp [St.args, ht]
      rw [h4]
      exact .dead _
  · obtain ⟨B, hB⟩ := Option.isSome_iff_exists.1 h1
    obtain ⟨B', hB'⟩ := Option.isSome_iff_exists.1 h2
    exact hi _ (hH n B hB) _ (hH m B' hB') g e1 e2
  · have h : (H.map (·.1)).contains n = false := h
    simpa using h
  · obtain ⟨B, hB⟩ := Option.isSome_iff_exists.1 h1
    exact .inr ⟨_, hH n B hB, e1⟩
  · simp only at hx
    split at hx
    · exact hx
    · cases hx
theorem enters_of {f : FuncId} {fn : Func} {c : Code} (hf : P.funcs[f]? = some fn) (hb : fn.body = some c) (hn : (fn.name == "runtime.NumGoroutine") = false) (vals : Array Value) (w : World) : (callFunc f vals).run P w = .ok (.enter f vals) w := by
  have hn' : ¬ (fn.name == "runtime.NumGoroutine") = true := by rw [hn]; simp
  simp only [callFunc, Sem.run_bind, run_program, Result.andThen_ok, hf]
  rw [if_neg hn']
  simp [hb]
theorem has_of (hmx : P.follows .mixedOrders = true) {f : FuncId} {fn : Func} {c : Code} {args : List AV} {a : AV} (hi : Hint) (hf : P.funcs[f]? = some fn) (hb : fn.body = some c) (hn : (fn.name == "runtime.NumGoroutine") = false) (hN : Nat.ble args.length fn.ntmps = true) (hd : drawsAll hi.rts c = true) (ha : a.final = true)
    (h : wF P fn.ntmps hi c (endS P fn.results.toList a) (St.args args [])) : Has P f args a noTok := by
  refine ⟨ha, fun vals w => enters_of hf hb hn vals w, fun G w vals hc hl hv => ?_⟩
  refine calls_of_wp hf hb ?_
  have hr := args_inv (P := P) (G := G) (ν := fun _ => none) (w := w) (vals := vals) (args := args) (H := []) (N := fn.ntmps) hc (fun p hp => by cases hp) (fun p hp => by cases hp) (fun _ _ => rfl) hl (fun i v b h1 h2 => .sh (hv i v b h1 h2)) (Nat.le_of_ble_eq_true hN) []
  have hend : ∀ (a' : Act) w' G' ν' s, a'.defers = [] → Inv P fn.ntmps ⟨G, w, fun g => ∃ q ∈ ([] : List (Nat × Blk)), blkOf (fun _ => none) q.1 = some g, fun n => if n ∈ ([] : List Nat) then none else none⟩ G' ν' w' a'.tmps s → endP P s a fn.results.toList →
      a'.defers = [] ∧ ∃ v, (results fn a'.tmps).run P w' = .ok v w' ∧ ∃ v2 G' O', Ending.returned v = .returned v2 ∧ Rl P 1 G' O' w' #[v2] (Go.Proofs.YtldnkeackphilaaGreatDoor.St.one a noTok) ∧ Fr G noOm w G' O' w' := by
    intro a' w' G' ν' s hds hI hE
    obtain ⟨hres, ns, hok, hp, rfl⟩ := hE
    have hall := resCL_mem hres
    have hrun := run_results (P := P) (w := w') fn a'.tmps fun r hr => (res_sound hI (hall r hr)).1
    obtain ⟨G2, h2, hle, hsub⟩ := hI.frzS ns hok
    have hv : RN G2 ν' _ _ := pack_rn (f := resV a'.tmps w' P) (g := fun r => fixA (frzF s.blk ns (resA P s r))) fn.results.toList fun r hr => (hsub _ _ (res_sound hI (hall r hr)).2).fix
    have e1 : fn.results.toList.map (fun r => fixA (frzF s.blk ns (resA P s r))) = fixL ((resAL P s fn.results.toList).map (frzF s.blk ns)) := by
      rw [resAL_map]
      generalize fn.results.toList = rs
      induction rs with
      | nil => rfl
      | cons r l ih => simp only [List.map_cons, fixL, ih]
    rw [e1] at hv
    refine ⟨hds, _, hrun, _, G2, noOm, rfl, ?_, ?_⟩
    · -- it is read alone
      have hpp : pureA (packA (fixL ((resAL P s fn.results.toList).map (frzF s.blk ns)))) = true := by
        have hfix : ∀ b : AV, pureA b = true → pureA (fixA b) = true := by
          intro b hb
          have main : ∀ b : AV, pureA b = true → ∀ (v : Value), True := fun _ _ _ => trivial
          exact pure_fix b hb
        have hl2 : pureL (fixL ((resAL P s fn.results.toList).map (frzF s.blk ns))) = true := by
          revert hp
          generalize (resAL P s fn.results.toList).map (frzF s.blk ns) = l
          intro hp
          induction l with
          | nil => rfl
          | cons b l ih =>
            simp only [pureL, Bool.and_eq_true] at hp
            simp only [fixL, pureL, Bool.and_eq_true]
            exact ⟨hfix b hp.1, ih hp.2⟩
        revert hl2
        generalize fixL ((resAL P s fn.results.toList).map (frzF s.blk ns)) = l
        intro hl2
        match l with
        | [] => rfl
        | [b] => simpa [pureL, packA] using hl2
        | b :: b' :: l => simpa [packA, pureA] using hl2
      have hrs := hv.toRS hpp
      have hff : ∀ b : AV, fixA (fixA b) = fixA b := fix_fix
      have hpk : fixA (packA (fixL ((resAL P s fn.results.toList).map (frzF s.blk ns)))) = packA (fixL ((resAL P s fn.results.toList).map (frzF s.blk ns))) := by
        generalize (resAL P s fn.results.toList).map (frzF s.blk ns) = l
        match l with
        | [] => rfl
        | [b] => exact hff b
        | b :: b' :: l => exact fix_fix (.tup (b :: b' :: l))
      rw [hpk] at hrs
      refine ⟨⟨rfl, h2.cells, fun g p hp => (by cases hp), fun t => ?_, fun t k E hE => ?_⟩, fun t k E hE => ?_⟩
      · by_cases ht : t = 0
        · subst ht
          exact .sh hrs
        · have : (Go.Proofs.YtldnkeackphilaaGreatDoor.St.one (packA (fixL ((resAL P s fn.results.toList).map (frzF s.blk ns)))) noTok).val t = .dead := by simp [Go.Proofs.YtldnkeackphilaaGreatDoor.St.one, ht]
          rw [this]
          exact .dead _
      · simp [Go.Proofs.YtldnkeackphilaaGreatDoor.St.one, noTok] at hE
      · simp [Go.Proofs.YtldnkeackphilaaGreatDoor.St.one, noTok] at hE
    · exact ⟨h2.fr.os, h2.fr.tape, h2.fr.output, h2.fr.size, h2.fr.le, fun g hg _ => by
        obtain ⟨q1, q2⟩ := h2.fr.old g hg (by rintro ⟨q, hq, -⟩; cases hq)
        exact ⟨q1, q2, rfl⟩⟩
  refine wp_mono (wF_sound hmx (hi := hi) (C := ⟨G, w, fun g => ∃ q ∈ ([] : List (Nat × Blk)), blkOf (fun _ => none) q.1 = some g, fun n => if n ∈ ([] : List Nat) then none else none⟩) (fun n x hx => by simp at hx) c hd rfl hr h) fun e a' w' hp => ?_
  obtain ⟨h1, G', ν', s, h2, h4⟩ := hp
  cases e with
  | normal => exact hend a' w' G' ν' s h1 h2 h4
  | ret => exact hend a' w' G' ν' s h1 h2 h4
  | _ => exact h4.elim
theorem hs_of (hmx : P.follows .mixedOrders = true) {f : FuncId} {fn : Func} {c : Code} {args : List AV} {a : AV} {H H' : List (Nat × Blk)} (hi : Hint) (fr : List Nat) (ow : List Own) (sg : List Sg) (hf : P.funcs[f]? = some fn) (hb : fn.body = some c) (hn : (fn.name == "runtime.NumGoroutine") = false) (hN : Nat.ble args.length fn.ntmps = true) (hd : drawsAll hi.rts c = true) (hKH : subset hi.K (H.map (·.1)) = true)
    (h : wF P fn.ntmps hi c (endH P fr ow sg hi.K fn.results.toList a H') (St.args args H)) : Hs P f args H a hi.K H' := by
  refine ⟨fun vals w => enters_of hf hb hn vals w, fun G ν w vals hc hB hinj hnn hl hv => ?_⟩
  refine calls_of_wp hf hb ?_
  have hr := args_inv (P := P) (N := fn.ntmps) hc hB hinj hnn hl hv (Nat.le_of_ble_eq_true hN) hi.K
  have hend : ∀ (a' : Act) w' G' ν' s, a'.defers = [] → Inv P fn.ntmps ⟨G, w, fun g => ∃ q ∈ H, blkOf ν q.1 = some g, fun n => if n ∈ hi.K then ν n else none⟩ G' ν' w' a'.tmps s → endHs P fr ow sg hi.K fn.results.toList a H' s →
      a'.defers = [] ∧ ∃ v, (results fn a'.tmps).run P w' = .ok v w' ∧ ∃ v2 G' ν', Ending.returned v = .returned v2 ∧ CellsR G' w' ∧ RN G' ν' v2 a ∧ (∀ p ∈ H', BlkR P G' ν' w' p.1 p.2) ∧ (∀ p ∈ H', ∀ q ∈ H', ∀ g, blkOf ν' p.1 = some g → blkOf ν' q.1 = some g → p.1 = q.1) ∧ (∀ n ∈ hi.K, ν' n = ν n) ∧
        (∀ p ∈ H', ∀ g, blkOf ν' p.1 = some g → w.heap.size ≤ g ∨ ∃ q ∈ H, blkOf ν q.1 = some g) ∧ Frm ⟨G, w, fun g => ∃ q ∈ H, blkOf ν q.1 = some g, fun _ => none⟩ G' w' := by
    intro a' w' G' ν' s hds hI hE
    obtain ⟨hok, hres, hsub, rfl, rfl⟩ := hE
    obtain ⟨G1, h1⟩ := Inv.opnL fr hI
    obtain ⟨ν1, h2⟩ := Inv.ownL ow h1
    have hok : sgOk hi.K (sgL ((s.opnL fr).ownL ow) sg) = true := hok
    have hK : ∀ n x, (fun n => if n ∈ hi.K then ν n else none) n = some x → n ∈ hi.K := fun n x hx => by
      simp only at hx
      split at hx
      · assumption
      · cases hx
    have h3 := h2.relab hok hK []
    generalize hs1 : (s.opnL fr).ownL ow = s1 at *
    generalize hσ : sgL s1 sg = σ at *
    have hok' := hok
    unfold sgOk at hok'
    simp only [Bool.and_eq_true] at hok'
    obtain ⟨⟨q1, q2⟩, q3⟩ := hok'
    have q1 := nd_spec q1
    have q2 := nd_spec q2
    have hall := resCL_mem hres
    have hrun := run_results (P := P) (w := w') fn a'.tmps fun r hr => (res_sound h2 (hall r hr)).1
    have hv : RN G1 (relNu σ ν1) _ _ := pack_rn (f := resV a'.tmps w' P) (g := fun r => fixA (renA (asN σ) (resA P s1 r))) fn.results.toList fun r hr => by
      refine RN.fix ((res_sound h2 (hall r hr)).2.ren fun n hn x hx => ?_)
      rw [relNu_asN q2 (subset_mem hsub (n := n) ?_)]
      · exact hx
      · rw [resAL_map]
        obtain ⟨j, hj⟩ := List.getElem?_of_mem hr
        exact refsL_get (j := j) (by rw [List.getElem?_map, hj]; rfl) n hn
    have e1 : fn.results.toList.map (fun r => fixA (renA (asN σ) (resA P s1 r))) = fixL (renL (asN σ) (resAL P s1 fn.results.toList)) := by
      rw [resAL_map]
      generalize fn.results.toList = rs
      induction rs with
      | nil => rfl
      | cons r l ih => simp only [List.map_cons, fixL, renL, ih]
    rw [e1] at hv
    -- the blocks behind the call
    have hpost : ∀ p ∈ relB s1 σ σ, (relab σ [] s1).blk p.1 = some p.2 := by
      have : ∀ l : List (Nat × Nat), (l.map (·.2)).Nodup → ∀ p ∈ relB s1 σ l, ascB (relB s1 σ l) p.1 = some p.2 ∧ p.1 ∈ l.map (·.2) := by
        intro l
        induction l with
        | nil => intro _ p hp; cases hp
        | cons r l ih =>
          intro hnd p hp
          simp only [List.map_cons, List.nodup_cons] at hnd
          simp only [relB] at hp ⊢
          have skip : ∀ p ∈ relB s1 σ l, ascB (relB s1 σ l) p.1 = some p.2 ∧ p.1 ∈ (r :: l).map (·.2) := fun p hp => by
            obtain ⟨k1, k2⟩ := ih hnd.2 p hp
            exact ⟨k1, by simp only [List.map_cons, List.mem_cons]; exact .inr k2⟩
          cases hb : s1.blk r.1 with
          | none => rw [hb] at hp; exact skip p hp
          | some B0 =>
            rw [hb] at hp
            simp only [relK] at hp ⊢
            by_cases hs : subset (refsK B0) (dom σ) = true
            · rw [if_pos hs] at hp ⊢
              rcases List.mem_cons.1 hp with rfl | hp
              · simp [ascB]
              · obtain ⟨k1, k2⟩ := ih hnd.2 p hp
                have hne : p.1 ≠ r.2 := fun e => hnd.1 (e ▸ k2)
                simp only [ascB, hne, if_false]
                exact ⟨k1, by simp only [List.map_cons, List.mem_cons]; exact .inr k2⟩
            · rw [if_neg hs] at hp ⊢
              exact skip p hp
      exact fun p hp => (this σ q2 p hp).1
    have hps : ∀ p ∈ relB s1 σ σ, ((relab σ [] s1).blk p.1).isSome = true := fun p hp => by rw [hpost p hp]; rfl
    refine ⟨hds, _, hrun, _, G1, relNu σ ν1, rfl, h3.cells, hv, fun p hp => h3.blks _ _ (hpost p hp), fun p hp q hq g e1 e2 => h3.inj _ _ g (hps p hp) (hps q hq) e1 e2, fun n hn => ?_, fun p hp g hg => h3.own _ g (hps p hp) hg, ⟨h3.fr.os, h3.fr.tape, h3.fr.output, h3.fr.size, h3.fr.le, h3.fr.old⟩⟩
    have hn' := List.all_eq_true.1 q3 n hn
    have hn' : (n, n) ∈ σ := by simpa using hn'
    have e0 := relNu_at (ν := ν1) q2 hn'
    rw [e0]
    -- what stays is what it was
    cases hx : ν n with
    | some x => exact h2.kpt n x (by simp only [hn, if_true]; exact hx)
    | none =>
      obtain ⟨p, p1, p2⟩ := List.mem_map.1 (subset_mem hKH hn)
      obtain ⟨x, hx'⟩ := (hB p p1).nu
      rw [p2, hx] at hx'
      cases hx'
  refine wp_mono (wF_sound hmx (hi := hi) (C := ⟨G, w, fun g => ∃ q ∈ H, blkOf ν q.1 = some g, fun n => if n ∈ hi.K then ν n else none⟩) (fun n x hx => by
    simp only at hx
    split at hx
    · assumption
    · cases hx) c hd rfl hr h) fun e a' w' hp => ?_
  obtain ⟨h1, G', ν', s, h2, h4⟩ := hp
  cases e with
  | normal => exact hend a' w' G' ν' s h1 h2 h4
  | ret => exact hend a' w' G' ν' s h1 h2 h4
  | _ => exact h4.elim
end
end Go.Proofs.YtldnkeackphilaaGreatDoor.X
