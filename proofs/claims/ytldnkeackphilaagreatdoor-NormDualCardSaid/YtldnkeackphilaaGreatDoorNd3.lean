/- The linear calculus: what turns a state. -/
import Derived.Test.YtldnkeackphilaaGreatDoorNd2
set_option linter.unusedSimpArgs false
set_option linter.unusedVariables false
namespace Go.Proofs.YtldnkeackphilaaGreatDoor.X
open Go.RowKit

def Nu.set (ν : Nu) (n : Nat) (x : NV) : Nu := fun m => if m = n then some x else ν m
theorem Nu.set_eq (ν : Nu) (n : Nat) (x : NV) : ν.set n x n = some x := by simp [Nu.set]
theorem Nu.set_ne (ν : Nu) {n m : Nat} (x : NV) (h : m ≠ n) : ν.set n x m = ν m := by simp [Nu.set, h]
theorem ext_set {ν : Nu} {n : Nat} {x : NV} (h : ν n = none) : Ext ν (ν.set n x) := fun m y e => by
  have : m ≠ n := by rintro rfl; rw [h] at e; cases e
  rw [Nu.set_ne _ _ this]; exact e
theorem blkOf_set_ne {ν : Nu} {n m : Nat} {x : NV} (h : m ≠ n) : blkOf (ν.set n x) m = blkOf ν m := by simp [blkOf, Nu.set_ne _ _ h]
theorem blkOf_set_eq {ν : Nu} {n : Nat} {x : NV} : blkOf (ν.set n x) n = x.blk := by simp [blkOf, Nu.set_eq]
def St.putv (st : St) (d : Nat) (a : AV) : St := ⟨fun u => if u = d then a else st.val u, st.blk, st.usd⟩
def St.setB (st : St) (n : Nat) (b : Option Blk) : St := ⟨st.val, fun m => if m = n then b else st.blk m, st.usd⟩
def St.use (st : St) (n : Nat) : St := ⟨st.val, st.blk, fun m => m == n || st.usd m⟩
def St.drops (st : St) : List Nat → St
  | [] => st
  | n :: ns => (st.setB n none).drops ns
structure Eff where
  dst : Option Nat
  a : AV
  bs : List (Nat × Option Blk)
  us : List Nat
def St.setL (st : St) : List (Nat × Option Blk) → St
  | [] => st
  | p :: l => (st.setL l).setB p.1 p.2
def St.useL (st : St) : List Nat → St
  | [] => st
  | n :: l => (st.useL l).use n
def St.putO (st : St) (d : Option Nat) (a : AV) : St := match d with
  | some d => st.putv d a
  | none => st
def St.app (st : St) (e : Eff) : St := ((st.setL e.bs).useL e.us).putO e.dst e.a
theorem St.ext' {s s' : St} (h1 : ∀ u, s.val u = s'.val u) (h2 : ∀ n, s.blk n = s'.blk n) (h3 : ∀ n, s.usd n = s'.usd n) : s = s' := by
  cases s
  cases s'
  simp only [St.mk.injEq]
  exact ⟨funext h1, funext h2, funext h3⟩
def dropE (ns : List Nat) : List (Nat × Option Blk) := ns.map fun n => (n, none)
theorem setL_drop (st : St) : ∀ ns : List Nat, (st.setL (dropE ns)).val = st.val ∧ (st.setL (dropE ns)).usd = st.usd ∧ ∀ m, (st.setL (dropE ns)).blk m = if m ∈ ns then none else st.blk m
  | [] => ⟨rfl, rfl, fun m => by simp [St.setL, dropE]⟩
  | n :: ns => by
    obtain ⟨h1, h2, h3⟩ := setL_drop st ns
    refine ⟨h1, h2, fun m => ?_⟩
    show (if m = n then none else (st.setL (dropE ns)).blk m) = _
    rw [h3]
    by_cases e : m = n <;> simp [e]
theorem drops_is : ∀ (ns : List Nat) (st : St), (st.drops ns).val = st.val ∧ (st.drops ns).usd = st.usd ∧ ∀ m, (st.drops ns).blk m = if m ∈ ns then none else st.blk m
  | [], st => ⟨rfl, rfl, fun m => by simp [St.drops]⟩
  | n :: ns, st => by
    obtain ⟨h1, h2, h3⟩ := drops_is ns (st.setB n none)
    refine ⟨h1, h2, fun m => ?_⟩
    show ((st.setB n none).drops ns).blk m = _
    rw [h3]
    by_cases e : m = n <;> simp [St.setB, e]
theorem drops_eq (st : St) (ns : List Nat) : st.setL (dropE ns) = st.drops ns := by
  obtain ⟨h1, h2, h3⟩ := setL_drop st ns
  obtain ⟨k1, k2, k3⟩ := drops_is ns st
  exact St.ext' (fun u => by rw [h1, k1]) (fun n => by rw [h3, k3]) (fun n => by rw [h2, k2])
section
variable {P : Program} {N : Nat} {C : Cx} {G : Gh} {ν : Nu} {w : World} {tm : Array Value} {st : St}
theorem Inv.putv (h : Inv P N C G ν w tm st) {d : Nat} (hd : d < N) {v : Value} {a : AV} (hv : RV2 G ν v a) : Inv P N C G ν w (tm.setIfInBounds d v) (st.putv d a) := by
  have hds : d < tm.size := by rw [h.size]; exact hd
  refine ⟨by simp [h.size], h.cells, fun t => ?_, h.blks, h.inj, h.news, h.own, h.fr, h.kpt⟩
  by_cases e : t = d
  · subst e
    rw [getD_set_eq' hds]
    simpa [St.putv] using hv
  · rw [getD_set_ne' e]
    simpa [St.putv, e] using h.vals t
theorem cells_old {G : Gh} {w w' : World} (h : CellsR G w) (hold : ∀ g, (∃ i a, G g i a) → w'.heap[g]? = w.heap[g]?) : CellsR G w' := ⟨fun g i a hg => by
  obtain ⟨v, h1, h2, h3⟩ := h g i a hg
  exact ⟨v, (World.cell?_of_block (w := w) (hold g ⟨i, a, hg⟩)).trans h1, h2, h3⟩, h.gl⟩
theorem ghost_lt {G : Gh} {w : World} (h : CellsR G w) {g i : Nat} {a : AV} (hg : G g i a) : g < w.heap.size := by
  obtain ⟨v, h1, -⟩ := h g i a hg
  exact World.block_lt_of_cell? w _ h1
theorem Inv.world (h : Inv P N C G ν w tm st) {w' : World} (hh : w'.heap = w.heap) (h1 : w'.os = w.os) (h2 : w'.tape = w.tape) (h3 : w'.output = w.output) : Inv P N C G ν w' tm st :=
  ⟨h.size, cells_old h.cells fun g _ => by rw [hh], h.vals, fun n B hB => (h.blks n B hB).keep (.refl _) (.refl _) fun g _ => ⟨by rw [hh], rfl⟩, h.inj, h.news, h.own,
    ⟨h1.trans h.fr.os, h2.trans h.fr.tape, h3.trans h.fr.output, by rw [hh]; exact h.fr.size, h.fr.le, fun g k1 k2 => by rw [hh]; exact h.fr.old g k1 k2⟩, h.kpt⟩
theorem Inv.drop (h : Inv P N C G ν w tm st) (n : Nat) : Inv P N C G ν w tm (st.setB n none) := by
  have hs : ∀ m, ((st.setB n none).blk m).isSome = true → (st.blk m).isSome = true := fun m hm => by
    simp only [St.setB] at hm
    split at hm
    · cases hm
    · exact hm
  refine ⟨h.size, h.cells, h.vals, fun m B hB => ?_, fun m m' g h1 h2 => h.inj m m' g (hs m h1) (hs m' h2), h.news, fun m g hm => h.own m g (hs m hm), h.fr, h.kpt⟩
  simp only [St.setB] at hB
  split at hB
  · cases hB
  · exact h.blks m B hB
theorem Inv.drops : ∀ (ns : List Nat) {st : St}, Inv P N C G ν w tm st → Inv P N C G ν w tm (st.drops ns)
  | [], _, h => h
  | n :: ns, _, h => Inv.drops ns (h.drop n)
theorem Inv.use (h : Inv P N C G ν w tm st) (n : Nat) : Inv P N C G ν w tm (st.use n) :=
  ⟨h.size, h.cells, h.vals, h.blks, h.inj, fun m hm => h.news m (by simp only [St.use, Bool.or_eq_false_iff] at hm; exact hm.2), h.own, h.fr, h.kpt⟩
theorem BlkR.nu {n : Nat} {B : Blk} (h : BlkR P G ν w n B) : ∃ x, ν n = some x := by
  cases B with
  | box T cs => obtain ⟨g, cap, sz, h1, -⟩ := h; exact ⟨_, h1⟩
  | row E es =>
    obtain ⟨-, h⟩ := h
    rcases h with ⟨cap, h1, -⟩ | ⟨g, cap, h1, -⟩ <;> exact ⟨_, h1⟩
theorem Inv.none_of (h : Inv P N C G ν w tm st) {n : Nat} (hn : st.usd n = false) : ν n = none ∧ st.blk n = none := by
  have h1 := h.news n hn
  refine ⟨h1, ?_⟩
  cases hb : st.blk n with
  | none => rfl
  | some B =>
    obtain ⟨x, hx⟩ := (h.blks n B hb).nu
    rw [h1] at hx
    cases hx
theorem Inv.new' (h : Inv P N C G ν w tm st) {n : Nat} (hn : st.usd n = false) (x : NV) (B : Blk) {w' : World} (h1 : w'.os = w.os) (h2 : w'.tape = w.tape) (h3 : w'.output = w.output) (hsz : w.heap.size ≤ w'.heap.size)
    (hold : ∀ g, g < w.heap.size → x.blk ≠ some g → w'.heap[g]? = w.heap[g]?) (hfree : ∀ g, x.blk = some g → (∀ m, (st.blk m).isSome = true → blkOf ν m ≠ some g) ∧ (C.w.heap.size ≤ g ∨ C.F g) ∧ ∀ i a, ¬ G g i a)
    (hB : BlkR P G (ν.set n x) w' n B) : Inv P N C G (ν.set n x) w' tm ((st.setB n (some B)).use n) := by
  obtain ⟨hnu, hnb⟩ := h.none_of hn
  have hx : Ext ν (ν.set n x) := ext_set hnu
  refine ⟨h.size, cells_old h.cells fun g ⟨i, a, hga⟩ => hold g (ghost_lt h.cells hga) (fun e => (hfree g e).2.2 i a hga), fun t => (h.vals t).mono (.refl _) hx, fun m B' hB' => ?_, fun m m' g hm hm' e1 e2 => ?_, fun m hm => ?_, fun m g hm e => ?_, ?_, fun m y e => hx m y (h.kpt m y e)⟩
  · simp only [St.use, St.setB] at hB'
    by_cases e : m = n
    · subst e
      simp only [if_true, Option.some.injEq] at hB'
      subst hB'
      exact hB
    · rw [if_neg e] at hB'
      exact (h.blks m B' hB').keep (.refl _) hx fun g hg' => ⟨hold g ((h.blks m B' hB').lt hg').1 (fun e => (hfree g e).1 m (by rw [hB']; rfl) hg'), rfl⟩
  · simp only [St.use, St.setB] at hm hm'
    by_cases e : m = n
    · by_cases e' : m' = n
      · rw [e, e']
      · rw [if_neg e'] at hm'
        subst e
        rw [blkOf_set_eq] at e1
        rw [blkOf_set_ne e'] at e2
        exact absurd e2 ((hfree g e1).1 m' hm')
    · rw [if_neg e] at hm
      by_cases e' : m' = n
      · subst e'
        rw [blkOf_set_eq] at e2
        rw [blkOf_set_ne e] at e1
        exact absurd e1 ((hfree g e2).1 m hm)
      · rw [if_neg e'] at hm'
        rw [blkOf_set_ne e] at e1
        rw [blkOf_set_ne e'] at e2
        exact h.inj m m' g hm hm' e1 e2
  · simp only [St.use, St.setB, Bool.or_eq_false_iff, beq_eq_false_iff_ne] at hm
    rw [Nu.set_ne _ _ hm.1]
    exact h.news m hm.2
  · simp only [St.use, St.setB] at hm
    by_cases e' : m = n
    · subst e'
      rw [blkOf_set_eq] at e
      exact (hfree g e).2.1
    · rw [if_neg e'] at hm
      rw [blkOf_set_ne e'] at e
      exact h.own m g hm e
  · refine ⟨h1.trans h.fr.os, h2.trans h.fr.tape, h3.trans h.fr.output, Nat.le_trans h.fr.size hsz, h.fr.le, fun g k1 k2 => ⟨(hold g (Nat.lt_of_lt_of_le k1 h.fr.size) (fun e => ?_)).trans (h.fr.old g k1 k2).1, (h.fr.old g k1 k2).2⟩⟩
    rcases (hfree g e).2.1 with h | h
    · omega
    · exact k2 h
theorem Inv.new (h : Inv P N C G ν w tm st) {n : Nat} (hn : st.usd n = false) (x : NV) (B : Blk) {w' : World} (h1 : w'.os = w.os) (h2 : w'.tape = w.tape) (h3 : w'.output = w.output) (hsz : w.heap.size ≤ w'.heap.size)
    (hold : ∀ g, g < w.heap.size → w'.heap[g]? = w.heap[g]?) (hg : ∀ g, x.blk = some g → w.heap.size ≤ g) (hB : BlkR P G (ν.set n x) w' n B) : Inv P N C G (ν.set n x) w' tm ((st.setB n (some B)).use n) :=
  h.new' hn x B h1 h2 h3 hsz (fun g k _ => hold g k) (fun g e => ⟨fun m hm hb => by
    obtain ⟨B', hB'⟩ := Option.isSome_iff_exists.1 hm
    have := ((h.blks m B' hB').lt hb).1
    have := hg g e
    omega, .inl (Nat.le_trans h.fr.size (hg g e)), fun i a hga => by
    have := ghost_lt h.cells hga
    have := hg g e
    omega⟩) hB
theorem Inv.chg (h : Inv P N C G ν w tm st) {n g : Nat} (hb : (st.blk n).isSome = true) (hg : blkOf ν n = some g) {B : Blk} {w' : World} (h1 : w'.os = w.os) (h2 : w'.tape = w.tape) (h3 : w'.output = w.output) (hsz : w.heap.size ≤ w'.heap.size)
    (hold : ∀ g', g' < w.heap.size → g' ≠ g → w'.heap[g']? = w.heap[g']?) (hB : BlkR P G ν w' n B) : Inv P N C G ν w' tm (st.setB n (some B)) := by
  obtain ⟨B0, hB0⟩ := Option.isSome_iff_exists.1 hb
  have hgG := ((h.blks n B0 hB0).lt hg).2
  have hs : ∀ m, ((st.setB n (some B)).blk m).isSome = true → (st.blk m).isSome = true := fun m hm => by
    simp only [St.setB] at hm
    split at hm
    · next e => rw [e]; exact hb
    · exact hm
  refine ⟨h.size, cells_old h.cells fun g' ⟨i, a, hga⟩ => hold g' (ghost_lt h.cells hga) (fun e => hgG i a (e ▸ hga)), h.vals, fun m B' hB' => ?_, fun m m' g hm hm' => h.inj m m' g (hs m hm) (hs m' hm'), h.news, fun m g hm => h.own m g (hs m hm), ?_, h.kpt⟩
  · simp only [St.setB] at hB'
    by_cases e : m = n
    · subst e
      simp only [if_true, Option.some.injEq] at hB'
      subst hB'
      exact hB
    · rw [if_neg e] at hB'
      refine (h.blks m B' hB').keep (.refl _) (.refl _) fun g' hg' => ⟨hold g' ((h.blks m B' hB').lt hg').1 ?_, rfl⟩
      rintro rfl
      exact e (h.inj m n g' (by rw [hB']; rfl) hb hg' hg)
  · refine ⟨h1.trans h.fr.os, h2.trans h.fr.tape, h3.trans h.fr.output, Nat.le_trans h.fr.size hsz, h.fr.le, fun g' k1 k2 => ⟨(hold g' (Nat.lt_of_lt_of_le k1 h.fr.size) ?_).trans (h.fr.old g' k1 k2).1, (h.fr.old g' k1 k2).2⟩⟩
    rintro rfl
    rcases h.own n g' hb hg with h | h
    · omega
    · exact k2 h
def pureK : Blk → Bool
  | .box _ cs => pureL cs
  | .row _ _ => true
def fixK : Blk → Blk
  | .box T cs => .box T (fixL cs)
  | .row E es => .row E es
theorem RN.sub {n : Nat} {B : Blk} {G' : Gh} (hle : Gle G G') (hb : BlkR P G ν w n B) (hopen : ∀ g, blkOf ν n = some g → ∀ j a, openG (fixK B) j = some a → G' g j a) {v : Value} {a : AV} (h : RN G ν v a) : RN G' ν v (subA n (fixK B) a) := by
  induction h with
  | sh h => exact .sh (rs_sub (h.mono hle) _ _)
  | nl => exact .nl
  | ref m off g cap sz h =>
    simp only [subA]
    by_cases e : m = n
    · subst e
      rw [if_pos rfl]
      cases B with
      | box T cs =>
        refine .sh (.ptr g off _ fun j a hj => hopen g (by simp [blkOf, h]) _ a ?_)
        rw [List.getElem?_drop] at hj
        exact hj
      | row E es => exact .ref m off g cap sz h
    · rw [if_neg e]
      exact .ref m off g cap sz h
  | elt m i j g cap sz h =>
    simp only [subA]
    by_cases e : m = n
    · subst e
      rw [if_pos rfl]
      cases B with
      | box T cs => exact .elt m i j g cap sz h
      | row E es =>
        refine .sh (.ptr g _ _ fun k a hk => hopen g (by simp [blkOf, h]) _ a ?_)
        obtain ⟨h0, hb⟩ := hb
        have hsz : sz = szP P E := by
          rcases hb with ⟨cap', h1, _⟩ | ⟨g', cap', h1, _⟩ <;> rw [h] at h1 <;> cases h1 <;> rfl
        rw [List.getElem?_drop] at hk
        have hi : i < es.length := by
          rcases Nat.lt_or_ge i es.length with hlt | hge
          · exact hlt
          · rw [List.getD_eq_getElem?_getD, List.getElem?_eq_none hge] at hk
            simp at hk
        have hgi : es[i]? = some es[i] := List.getElem?_eq_getElem hi
        rw [List.getD_eq_getElem?_getD, hgi] at hk
        show es.flatten[i * sz + j + k]? = some a
        rw [Nat.add_assoc, hsz]
        exact flat_get h0 hgi hk
    · rw [if_neg e]
      exact .elt m i j g cap sz h
  | rw m lo len g cap sz o h hc ho =>
    simp only [subA]
    by_cases e : m = n
    · subst e
      rw [if_pos rfl]
      cases B with
      | box T cs => exact .rw m lo len g cap sz o h hc ho
      | row E es =>
        obtain ⟨h0, hb⟩ := hb
        have hsz : sz = szP P E := by
          rcases hb with ⟨cap', h1, _⟩ | ⟨g', cap', h1, _⟩ <;> rw [h] at h1 <;> cases h1 <;> rfl
        simp only [fixK, subS]
        by_cases hl : lo + len ≤ es.length
        · rw [if_pos hl]
          have hlen : ((es.drop lo).take len).length = len := by simp; omega
          have hfin := RS.sl (G := G') g o sz (cap - lo) ((es.drop lo).take len) (fun e he => hsz ▸ h0 e (List.mem_of_mem_drop (List.mem_of_mem_take he))) (by rw [hlen]; omega) fun i e j a hi hj => by
            have hil : i < len := by rw [← hlen]; exact (List.getElem?_eq_some_iff.1 hi).1
            rw [List.getElem?_take_of_lt hil, List.getElem?_drop] at hi
            have := flat_get h0 hi hj
            refine hopen g (by simp [blkOf, h]) _ a ?_
            show es.flatten[o + i * sz + j]? = some a
            rw [ho (.inl (by omega)), hsz, ← Nat.add_mul]
            exact this
          rw [hlen] at hfin
          exact .sh hfin
        · rw [if_neg hl]
          exact .rw m lo len g cap sz o h hc ho
    · rw [if_neg e]
      exact .rw m lo len g cap sz o h hc ho
  | rw0 m cap sz h =>
    simp only [subA]
    by_cases e : m = n
    · subst e
      rw [if_pos rfl]
      cases B with
      | box T cs => exact .rw0 m cap sz h
      | row E es =>
        simp only [fixK, subS, Nat.add_zero, Nat.zero_le, if_true, List.take_zero]
        exact .sh .nil
    · rw [if_neg e]
      exact .rw0 m cap sz h
  | agg vs cs hl h1 _ ih =>
    refine .agg vs _ (by rw [subL_len]; exact hl) h1 fun j v a hv ha => ?_
    rw [subL_get] at ha
    obtain ⟨b, hb, rfl⟩ := Option.map_eq_some_iff.1 ha
    exact ih j v b hv hb
  | tup vs cs hl _ ih =>
    refine .tup vs _ (by rw [subL_len]; exact hl) fun j v a hv ha => ?_
    rw [subL_get] at ha
    obtain ⟨b, hb, rfl⟩ := Option.map_eq_some_iff.1 ha
    exact ih j v b hv hb
  | ifc t v a _ ih => exact .ifc t v _ ih
  | fnc f vs cs hl h _ => exact .fnc f vs cs hl fun j v a e1 e2 => (h j v a e1 e2).mono hle (.refl _)
theorem Inv.frz (h : Inv P N C G ν w tm st) {n : Nat} {B : Blk} (hn : (st.blk n).isSome = true) (hb : BlkR P G ν w n B) (hp : pureK B = true) : ∃ G', Inv P N C G' ν w tm (st.setB n none) ∧ Gle G G' ∧ (∀ v a, RN G ν v a → RN G' ν v (subA n (fixK B) a)) ∧ ∀ g, blkOf ν n ≠ some g → G' g = G g := by
  cases hbo : blkOf ν n with
  | none =>
    exact ⟨G, h.drop n, .refl _, fun v a hv => hv.sub (.refl _) hb (fun g hg => by rw [hbo] at hg; cases hg), fun _ _ => rfl⟩
  | some g =>
    have hle : Gle G (gset G g (openG (fixK B))) := gset_le _ _ _
    have hlt := hb.lt hbo
    have hopen : ∀ g', blkOf ν n = some g' → ∀ j a, openG (fixK B) j = some a → gset G g (openG (fixK B)) g' j a := fun g' hg' j a hj => by
      rw [hbo] at hg'
      cases hg'
      exact .inr ⟨rfl, hj⟩
    have hd := h.drop n
    refine ⟨gset G g (openG (fixK B)), ⟨hd.size, ⟨fun g' i a hga => ?_, h.cells.gl.mono hle⟩, fun t => (hd.vals t).mono hle (.refl _), fun m B' hB' => ?_, hd.inj, hd.news, hd.own, ?_, hd.kpt⟩, hle, fun v a hv => hv.sub hle hb hopen, fun g' hg' => gset_ne _ _ (fun e => hg' (by rw [e]))⟩
    · by_cases e : g' = g
      · subst e
        rw [gset_fresh hlt.2] at hga
        cases B with
        | box T cs =>
          obtain ⟨g2, cap, sz, h1, h2, vs, h3, h4, h5⟩ := hb
          have : g2 = g' := by simpa [blkOf, h1] using hbo
          subst this
          have hga : (fixL cs)[i]? = some a := hga
          rw [fixL_get] at hga
          obtain ⟨b, hb, rfl⟩ := Option.map_eq_some_iff.1 hga
          have hi : i < vs.size := by rw [h4]; exact (List.getElem?_eq_some_iff.1 hb).1
          obtain ⟨q1, q2⟩ := h5 i _ b (Array.getElem?_eq_getElem hi) hb
          exact ⟨_, by rw [cell_of_row _ _ _ _ _ _ h3]; exact Array.getElem?_eq_getElem hi, q1, (q2.toRS (pureL_get hp hb)).mono hle⟩
        | row E es =>
          obtain ⟨h0, hb⟩ := hb
          rcases hb with ⟨cap', h1, _⟩ | ⟨g2, cap, h1, h2, h3, h4, vs, h5, h6, h7⟩
          · simp [blkOf, h1] at hbo
          · have : g2 = g' := by simpa [blkOf, h1] using hbo
            subst this
            have hga : es.flatten[i]? = some a := hga
            have hi : i < vs.size := by
              have := (List.getElem?_eq_some_iff.1 hga).1
              rw [flat_len h0] at this
              rw [h6]
              exact Nat.lt_of_lt_of_le this (Nat.mul_le_mul_right _ h3)
            obtain ⟨q1, q2⟩ := h7 i _ a (Array.getElem?_eq_getElem hi) hga
            exact ⟨_, by rw [cell_of_row _ _ _ _ _ _ h5]; exact Array.getElem?_eq_getElem hi, q1, q2.mono hle⟩
      · rw [gset_ne _ _ e] at hga
        obtain ⟨v, h1, h2, h3⟩ := h.cells g' i a hga
        exact ⟨v, h1, h2, h3.mono hle⟩
    · have hm : m ≠ n ∧ st.blk m = some B' := by
        simp only [St.setB] at hB'
        split at hB'
        · cases hB'
        · next e => exact ⟨e, hB'⟩
      refine (h.blks m B' hm.2).keep hle (.refl _) fun g' hg' => ⟨rfl, gset_ne _ _ ?_⟩
      rintro rfl
      exact hm.1 (h.inj m n g' (by rw [hm.2]; rfl) hn hg' hbo)
    · refine ⟨h.fr.os, h.fr.tape, h.fr.output, h.fr.size, h.fr.le.trans hle, fun g' k1 k2 => ⟨(h.fr.old g' k1 k2).1, ?_⟩⟩
      rw [gset_ne _ _ ?_]
      · exact (h.fr.old g' k1 k2).2
      · rintro rfl
        rcases h.own n g' hn hbo with h | h
        · omega
        · exact k2 h
def opnB (n : Nat) (B : Blk) (blk : Nat → Option Blk) : Nat → Option Blk := fun m => if m = n then none else (blk m).map (subK n B)
def frzF (blk : Nat → Option Blk) : List Nat → AV → AV
  | [], a => a
  | n :: ns, a => match blk n with
    | some B => frzF (opnB n (fixK B) blk) ns (subA n (fixK B) a)
    | none => .dead
def frzOk (blk : Nat → Option Blk) : List Nat → Prop
  | [] => True
  | n :: ns => match blk n with
    | some B => pureK B = true ∧ frzOk (opnB n (fixK B) blk) ns
    | none => False
theorem BlkR.sub {n m : Nat} {B B' : Blk} {G' : Gh} (hle : Gle G G') (hs : ∀ v a, RN G ν v a → RN G' ν v (subA n (fixK B) a)) (hg : ∀ g, blkOf ν m = some g → G' g = G g) (h : BlkR P G ν w m B') : BlkR P G' ν w m (subK n (fixK B) B') := by
  cases B' with
  | box T cs =>
    obtain ⟨g, cap, sz, h1, h2, vs, h3, h4, h5⟩ := h
    refine ⟨g, cap, sz, h1, fun i a => by rw [hg g (by simp [blkOf, h1])]; exact h2 i a, vs, h3, by rw [subL_len]; exact h4, fun j v a e1 e2 => ?_⟩
    rw [subL_get] at e2
    obtain ⟨b, hb, rfl⟩ := Option.map_eq_some_iff.1 e2
    exact ⟨(h5 j v b e1 hb).1, hs _ _ (h5 j v b e1 hb).2⟩
  | row E es => exact h.keep hle (.refl _) fun g hgm => ⟨rfl, hg g hgm⟩
theorem Inv.frzN : ∀ (ns : List Nat) (blk : Nat → Option Blk) {G : Gh} {st : St}, Inv P N C G ν w tm st → (∀ m B, blk m = some B → BlkR P G ν w m B ∧ (st.blk m).isSome = true) → frzOk blk ns →
    ∃ G', Inv P N C G' ν w tm (st.drops ns) ∧ Gle G G' ∧ ∀ v a, RN G ν v a → RN G' ν v (frzF blk ns a)
  | [], blk, G, st, h, _, _ => ⟨G, h, .refl _, fun _ _ h => h⟩
  | n :: ns, blk, G, st, h, hb, hok => by
    unfold frzOk at hok
    cases hB : blk n with
    | none => rw [hB] at hok; exact hok.elim
    | some B =>
      rw [hB] at hok
      obtain ⟨hp, hok⟩ := hok
      obtain ⟨hbn, hsn⟩ := hb n B hB
      obtain ⟨G1, h1, h2, h3, h4⟩ := h.frz hsn hbn hp
      obtain ⟨G2, k1, k2, k3⟩ := Inv.frzN ns (opnB n (fixK B) blk) h1 (fun m B' hm => by
        unfold opnB at hm
        by_cases e : m = n
        · rw [if_pos e] at hm; cases hm
        · rw [if_neg e] at hm
          obtain ⟨B0, hB0, rfl⟩ := Option.map_eq_some_iff.1 hm
          obtain ⟨q1, q2⟩ := hb m B0 hB0
          refine ⟨q1.sub h2 h3 fun g hg => h4 g fun e' => e (h.inj m n g q2 hsn hg e'), ?_⟩
          simp only [St.setB, e, if_false]
          exact q2) hok
      refine ⟨G2, k1, h2.trans k2, fun v a hv => ?_⟩
      simp only [frzF, hB]
      exact k3 _ _ (h3 _ _ hv)
theorem Inv.frzS (h : Inv P N C G ν w tm st) (ns : List Nat) (hok : frzOk st.blk ns) : ∃ G', Inv P N C G' ν w tm (st.drops ns) ∧ Gle G G' ∧ ∀ v a, RN G ν v a → RN G' ν v (frzF st.blk ns a) :=
  Inv.frzN ns st.blk h (fun m B hm => ⟨h.blks m B hm, by rw [hm]; rfl⟩) hok
end
end Go.Proofs.YtldnkeackphilaaGreatDoor.X
namespace Go.Proofs.YtldnkeackphilaaGreatDoor.X
open Go.RowKit

def constX : Value → AV
  | .slice none 0 0 => .nl
  | v => .imm v
def constAX : Value → AV
  | .agg vs => .agg (vs.toList.map constX)
  | .tuple vs => if vs.size = 0 then .tup [] else .dead
  | v => constX v
def unC' : AV → AV
  | .cnd _ a => a
  | a => a
def okV (y : Bool) : AV → Prop
  | .cnd y' _ => y = true → y' = true
  | .dead => False
  | _ => True
def St.get (st : St) : Operand → AV
  | .tmp t => unC' (st.val t)
  | .const v => constAX v
  | .global g => .imm (.pointer (some ⟨g, 0, none⟩))
  | .func f => .imm (.func (.func f) #[] #[])
def St.ok (st : St) (y : Bool) : Operand → Prop
  | .tmp t => okV y (st.val t)
  | .const v => v.oneCell' = true ∨ ∃ vs, v = .agg vs ∧ vs.all (·.oneCell') = true
  | _ => True
theorem rn_cell {G : Gh} {ν : Nu} {v : Value} (h : v.oneCell' = true) : RN G ν v (constX v) := by
  unfold constX
  split
  · exact .nl
  · exact .sh (.imm v h)
theorem constX_one {v : Value} (h : v.oneCell' = true) : constAX v = constX v := by
  cases v <;> first | rfl | cases h
theorem rn_const {G : Gh} {ν : Nu} {v : Value} (h : v.oneCell' = true ∨ ∃ vs, v = .agg vs ∧ vs.all (·.oneCell') = true) : RN G ν v (constAX v) := by
  rcases h with h | ⟨vs, rfl, h⟩
  · rw [constX_one h]; exact rn_cell h
  · have h' : ∀ (j : Nat) (v : Value), vs[j]? = some v → v.oneCell' = true := fun j v hj => (Array.all_eq_true_iff_forall_mem.1 h) v (Array.mem_of_getElem? hj)
    refine .agg vs _ (by simp) h' fun j v a hv ha => ?_
    have : a = constX v := by
      rw [List.getElem?_map, Array.getElem?_toList, hv] at ha
      simpa using ha.symm
    subst this
    exact rn_cell (h' j v hv)
section
variable {P : Program} {N : Nat} {C : Cx} {G : Gh} {ν : Nu} {w : World} {st : St}
theorem get_sound {a : Act} (h : Inv P N C G ν w a.tmps st) {y : Bool} (hy : y = true) {x : Operand} (hx : st.ok y x) : RN G ν (a.eval x) (st.get x) := by
  cases x with
  | tmp t =>
    have hv := h.vals t
    have hE : a.eval (.tmp t) = a.tmps.getD t undef := rfl
    rw [hE]
    simp only [St.ok] at hx
    simp only [St.get]
    generalize a.tmps.getD t undef = v at hv
    generalize st.val t = A at hv hx
    cases hv with
    | x h =>
      cases A <;> first | exact h | exact h.cndI.elim
    | cnd y' v A h1 h2 => exact h1 (hx hy)
    | dead => exact hx.elim
  | const v => exact rn_const hx
  | global g => exact .sh (.imm _ rfl)
  | func f => exact .sh (.imm _ rfl)
def LiesN (G : Gh) (ν : Nu) (w : World) (g o : Nat) (cs : List AV) : Prop := ∀ (j : Nat) a, cs[j]? = some a → ∃ v, w.cell? ⟨g, o + j, none⟩ = some v ∧ v.oneCell' = true ∧ RN G ν v a
def atB (off : Nat) : Option Blk → List AV
  | some (.box _ cs) => cs.drop off
  | _ => []
def atE (i j : Nat) : Option Blk → List AV
  | some (.row _ es) => (es.getD i []).drop j
  | _ => []
def St.at (st : St) : AV → List AV
  | .ref n off => atB off (st.blk n)
  | .elt n i j => atE i j (st.blk n)
  | .ptr cs => cs
  | _ => []
def atBC : Option Blk → Prop
  | some (.box _ _) => True
  | _ => False
def atEC (y : Bool) (i : Nat) : Option Blk → Prop
  | some (.row _ es) => y = true → i < es.length
  | _ => False
def St.atC (st : St) (y : Bool) : AV → Prop
  | .ref n _ => atBC (st.blk n)
  | .elt n i _ => atEC y i (st.blk n)
  | .ptr _ => True
  | _ => False
theorem at_sound {tm : Array Value} (h : Inv P N C G ν w tm st) {v : Value} {a : AV} (hv : RN G ν v a) (hc : st.atC true a) : ∃ g o, v = .pointer (some ⟨g, o, none⟩) ∧ LiesN G ν w g o (st.at a) := by
  cases a <;> first | exact hc.elim | skip
  · next cs =>
    obtain ⟨g, o, rfl, hg⟩ := hv.ptrI
    refine ⟨g, o, rfl, fun j b hj => ?_⟩
    obtain ⟨u, h1, h2, h3⟩ := h.cells _ _ _ (hg j b hj)
    exact ⟨u, h1, h2, .sh h3⟩
  · next n off =>
    obtain ⟨g, cap, sz, hn, rfl⟩ := hv.refI
    simp only [St.atC] at hc
    simp only [St.at]
    cases hb : st.blk n with
    | none => rw [hb] at hc; exact hc.elim
    | some B =>
      cases B with
      | row E es => rw [hb] at hc; exact hc.elim
      | box T cs =>
        obtain ⟨g', cap', sz', h1, h2, vs, h3, h4, h5⟩ := h.blks n _ hb
        rw [hn] at h1
        cases h1
        refine ⟨g, off, rfl, fun j b hj => ?_⟩
        have hj : cs[off + j]? = some b := by simpa [atB, List.getElem?_drop] using hj
        have hlt : off + j < vs.size := by rw [h4]; exact (List.getElem?_eq_some_iff.1 hj).1
        obtain ⟨k1, k2⟩ := h5 _ _ b (Array.getElem?_eq_getElem hlt) hj
        exact ⟨_, by rw [cell_of_row _ _ _ _ _ _ h3]; exact Array.getElem?_eq_getElem hlt, k1, k2⟩
  · next n i k =>
    obtain ⟨g, cap, sz, hn, rfl⟩ := hv.eltI
    simp only [St.atC] at hc
    simp only [St.at]
    cases hb : st.blk n with
    | none => rw [hb] at hc; exact hc.elim
    | some B =>
      cases B with
      | box T cs => rw [hb] at hc; exact hc.elim
      | row E es =>
        rw [hb] at hc
        have hi : i < es.length := hc rfl
        obtain ⟨h0, hr⟩ := h.blks n _ hb
        rcases hr with ⟨cap', h1, _⟩ | ⟨g', cap', h1, h2, h3, h4, vs, h5, h6, h7⟩
        · rw [hn] at h1; cases h1
        rw [hn] at h1
        cases h1
        refine ⟨g, _, rfl, fun j b hj => ?_⟩
        have hgi : es[i]? = some es[i] := List.getElem?_eq_getElem hi
        have hj : es[i][k + j]? = some b := by simpa [atE, List.getD_eq_getElem?_getD, hgi, List.getElem?_drop] using hj
        have hfl := flat_get h0 hgi hj
        have hlt : i * szP P E + (k + j) < vs.size := by
          have := (List.getElem?_eq_some_iff.1 hfl).1
          rw [flat_len h0] at this
          rw [h6]
          exact Nat.lt_of_lt_of_le this (Nat.mul_le_mul_right _ h3)
        obtain ⟨k1, k2⟩ := h7 _ _ b (Array.getElem?_eq_getElem hlt) hfl
        exact ⟨_, by rw [Nat.add_assoc, cell_of_row _ _ _ _ _ _ h5]; exact Array.getElem?_eq_getElem hlt, k1, .sh k2⟩
theorem run_ldN {g o : Nat} {cs : List AV} (hl : LiesN G ν w g o cs) {T : TypeId} (hc : ldC P T cs) : ∃ v, (Instr.loadAt T (.pointer (some ⟨g, o, none⟩))).run P w = .ok v w ∧ RN G ν v (ldA P T cs) := by
  unfold ldC at hc
  unfold ldA
  by_cases hR : isRowT P T = true
  · rw [if_pos hR] at hc
    simp only [hR, if_true]
    obtain ⟨hi, hsz⟩ := hc
    obtain ⟨d, hu, hd⟩ : ∃ d, P.underlying T = some d ∧ d.isRow = true := by
      unfold isRowT at hR
      split at hR <;> first | exact ⟨_, ‹_›, rfl⟩ | cases hR
    let us : List Value := (List.range (szP P T)).map fun j => (w.cell? ⟨g, o + j, none⟩).getD undef
    have hus : ∀ (j : Nat), j < szP P T → ∃ v a, us[j]? = some v ∧ cs[j]? = some a ∧ w.cell? ⟨g, o + j, none⟩ = some v ∧ v.oneCell' = true ∧ RN G ν v a := by
      intro j hj
      have hj' : j < cs.length := by omega
      obtain ⟨v, h1, h2, h3⟩ := hl j _ (List.getElem?_eq_getElem hj')
      exact ⟨v, _, by simp [us, hj, h1], List.getElem?_eq_getElem hj', h1, h2, h3⟩
    have hlen : us.length = szP P T := by simp [us]
    have hr := run_loadAt_mid (P := P) w g o T us d (fun j v hv => by
      have hj : j < szP P T := by rw [← hlen]; exact (List.getElem?_eq_some_iff.1 hv).1
      obtain ⟨v', a, h1, h2, h3, _⟩ := hus j hj
      rw [h1] at hv
      cases hv
      exact h3) hu hd (by
      obtain ⟨i, hi⟩ := Option.isSome_iff_exists.1 hi
      simp [hi, hlen, szP])
    refine ⟨_, hr, .agg _ _ (by simp [hlen]; omega) (fun j v hv => ?_) (fun j v a hv ha => ?_)⟩
    · have hv : us[j]? = some v := by simpa using hv
      have hj : j < szP P T := by rw [← hlen]; exact (List.getElem?_eq_some_iff.1 hv).1
      obtain ⟨v', a, h1, h2, h3, h4, _⟩ := hus j hj
      rw [h1] at hv
      cases hv
      exact h4
    · have hv : us[j]? = some v := by simpa using hv
      have hj : j < szP P T := by rw [← hlen]; exact (List.getElem?_eq_some_iff.1 hv).1
      obtain ⟨v', a', h1, h2, h3, h4, h5⟩ := hus j hj
      rw [h1] at hv
      cases hv
      rw [List.getElem?_take_of_lt hj, h2] at ha
      cases ha
      exact h5
  · rw [if_neg hR] at hc
    have hR' : isRowT P T = false := by simpa using hR
    simp only [hR', Bool.false_eq_true, if_false]
    obtain ⟨hu, h0⟩ := hc
    rcases cs with _ | ⟨c, cs⟩
    · simp at h0
    · obtain ⟨v, h1, h2, h3⟩ := hl 0 c rfl
      rw [Nat.add_zero] at h1
      refine ⟨v, ?_, h3⟩
      simp only [Instr.loadAt, Instr.sureAddr, Sem.run_bind, Sem.run_pure, Result.andThen_ok, loadVar, run_isRow w hu, hR', Bool.false_eq_true, if_false, run_load, h1]
theorem run_partN {vs : Array Value} {cs : List AV} (hv : RN G ν (.agg vs) (.agg cs)) {T : TypeId} {off : Nat} (hc : ldC P T (cs.drop off)) : ∃ v, (part T vs off).run P w = .ok v w ∧ RN G ν v (ldA P T (cs.drop off)) := by
  obtain ⟨vs', e, hl, h1, h⟩ := hv.aggI
  cases e
  unfold ldC at hc
  unfold ldA
  by_cases hR : isRowT P T = true
  · rw [if_pos hR] at hc ⊢
    obtain ⟨hi, hsz⟩ := hc
    obtain ⟨i, hi⟩ := Option.isSome_iff_exists.1 hi
    have hs : szP P T = i.size := by simp [szP, hi]
    have hu : (P.underlying T).isSome = true := by
      unfold isRowT at hR
      split at hR <;> first | (rename_i e; rw [e]; rfl) | cases hR
    simp only [List.length_drop] at hsz
    refine ⟨.agg (vs.extract off (off + i.size)), by simp [part, run_isRow w hu, hR, sizeOf, typeInfo, hi], .agg _ _ (by simp; omega) (fun j v hj => ?_) fun j v a hj ha => ?_⟩
    · rw [Array.getElem?_extract] at hj
      split at hj
      · exact h1 _ v hj
      · cases hj
    · rw [Array.getElem?_extract] at hj
      split at hj
      · next hlt =>
        rw [List.getElem?_take_of_lt (by omega), List.getElem?_drop] at ha
        exact h _ v a hj ha
      · cases hj
  · rw [if_neg hR] at hc ⊢
    obtain ⟨hu, h0⟩ := hc
    simp only [List.length_drop] at h0
    have hR' : isRowT P T = false := by simpa using hR
    have hv : vs[off]? = some vs[off] := Array.getElem?_eq_getElem (by omega)
    refine ⟨vs[off], by simp only [part, Sem.run_bind, run_isRow w hu, hR', Result.andThen_ok, Bool.false_eq_true, if_false, hv, Sem.run_pure], ?_⟩
    have ha : cs[off]? = some cs[off] := List.getElem?_eq_getElem (by omega)
    have e : (cs.drop off).headD .dead = cs[off] := by
      rw [List.drop_eq_getElem_cons (by omega)]; rfl
    rw [e]
    exact h off _ _ hv ha
theorem run_eq1N {t : TypeId} {a b : AV} {u v : Value} (hc : eq1C P t a b) (hu : RN G ν u a) (hv : RN G ν v b) (d : Nat) : (Op.equalIn (d + 1) t u v).run P w = .ok (eqV a b) w ∧ isRowT P t = false ∧ (P.underlying t).isSome = true := by
  unfold eq1C at hc
  split at hc
  · exact run_eq1 (P := P) (w := w) (t := t) (a := .imm (.int _ _)) (b := .imm (.int _ _)) (G := G) hc (by rw [hu.immI.1]; exact .imm _ rfl) (by rw [hv.immI.1]; exact .imm _ rfl) d
  · exact run_eq1 (P := P) (w := w) (t := t) (a := .imm (.bool _)) (b := .imm (.bool _)) (G := G) hc (by rw [hu.immI.1]; exact .imm _ rfl) (by rw [hv.immI.1]; exact .imm _ rfl) d
  · exact run_eq1 (P := P) (w := w) (t := t) (a := .imm (.string _)) (b := .imm (.string _)) (G := G) hc (by rw [hu.immI.1]; exact .imm _ rfl) (by rw [hv.immI.1]; exact .imm _ rfl) d
  · exact hc.elim
theorem run_eqFieldsN {xs ys : Array Value} {as bs : List AV} (hx : RN G ν (.agg xs) (.agg as)) (hy : RN G ν (.agg ys) (.agg bs)) (d : Nat) : ∀ (fs : List Field) (j : Nat), fldOk j fs = true → eqFC P (fs.map (·.type)) (as.drop j) (bs.drop j) →
    (Op.eqFields (d + 1) xs ys fs).run P w = .ok (eqCs (as.drop j) (bs.drop j)) w
  | [], j, _, hc => by
    generalize as.drop j = A at hc ⊢
    generalize bs.drop j = B at hc ⊢
    cases A with
    | nil => rfl
    | cons a A => cases B <;> exact hc.elim
  | f :: fs, j, hf, hc => by
    simp only [fldOk, Bool.and_eq_true, bne_iff_ne, ne_eq, beq_iff_eq] at hf
    obtain ⟨⟨h1, h2⟩, h3⟩ := hf
    have ha : as.drop j ≠ [] := fun e => by
      simp only [e, List.map_cons] at hc
      generalize bs.drop j = B at hc
      cases B <;> exact hc.elim
    have hb : bs.drop j ≠ [] := fun e => by
      simp only [e, List.map_cons] at hc
      generalize as.drop j = A at hc
      cases A <;> exact hc.elim
    have hja : j < as.length := by
      apply Nat.lt_of_not_le
      intro hle
      exact ha (List.drop_eq_nil_of_le hle)
    have hjb : j < bs.length := by
      apply Nat.lt_of_not_le
      intro hle
      exact hb (List.drop_eq_nil_of_le hle)
    have ea : as.drop j = as[j] :: as.drop (j + 1) := List.drop_eq_getElem_cons hja
    have eb : bs.drop j = bs[j] :: bs.drop (j + 1) := List.drop_eq_getElem_cons hjb
    rw [ea, eb] at hc
    obtain ⟨hc1, hc2⟩ : eq1C P f.type as[j] bs[j] ∧ eqFC P (fs.map (·.type)) (as.drop (j + 1)) (bs.drop (j + 1)) := hc
    obtain ⟨hr, hu⟩ := eq1_row hc1
    have ldC' : ∀ cs : List AV, j < cs.length → ldC P f.type (cs.drop j) := fun cs hj => by
      unfold ldC
      rw [hr]
      simp only [Bool.false_eq_true, if_false]
      exact ⟨hu, by simp only [List.length_drop]; omega⟩
    have ldA' : ∀ (cs : List AV) (hj : j < cs.length), ldA P f.type (cs.drop j) = cs[j] := fun cs hj => by
      unfold ldA
      rw [hr, List.drop_eq_getElem_cons hj]
      rfl
    obtain ⟨u, u1, u2⟩ := run_partN (P := P) (w := w) hx (ldC' as hja)
    obtain ⟨v, v1, v2⟩ := run_partN (P := P) (w := w) hy (ldC' bs hjb)
    rw [ldA' as hja] at u2
    rw [ldA' bs hjb] at v2
    have he := (run_eq1N (w := w) hc1 u2 v2 d).1
    have ih := run_eqFieldsN hx hy d fs (j + 1) h3 hc2
    rw [ea, eb]
    simp only [Op.eqFields, h2, ne_eq, h1, not_false_eq_true, if_true, Sem.run_bind, u1, v1, Result.andThen_ok, he, eqCs]
    cases eqV as[j] bs[j]
    · rfl
    · simp only [Bool.not_true, Bool.false_eq_true, if_false, Bool.true_and]
      exact ih
theorem run_aggEqN {T : TypeId} {xs ys : Array Value} {as bs : List AV} (hx : RN G ν (.agg xs) (.agg as)) (hy : RN G ν (.agg ys) (.agg bs)) (ht : eqTP P T = true) (hc : eqFC P (typsP P T) as bs) (op : BinOp) (x y : Operand) :
    (Op.equal T (.agg xs) (.agg ys)).run P w = .ok (eqCs as bs) w ∧ (eqGuard op T x y (.agg xs) (.agg ys)).run P w = .ok () w := by
  unfold eqTP at ht
  simp only [Bool.and_eq_true, Bool.not_eq_true'] at ht
  obtain ⟨⟨h1, h2⟩, h3⟩ := ht
  split at h1
  · next fs hu =>
    have hfs : P.fieldsOf T = fs := by simp [Program.fieldsOf, hu]
    constructor
    · have e : Op.equal T (.agg xs) (.agg ys) = Op.equalIn (9999 + 1) T (.agg xs) (.agg ys) := rfl
      rw [e, run_equalIn_struct w 9999 T xs ys (by rw [hfs]; exact hu) h2]
      exact run_eqFieldsN hx hy 9998 (P.fieldsOf T).toList 0 (by rw [hfs]; exact h1) hc
    · cases op <;> simp [eqGuard, run_program, h3]
  · cases h1
def binX (op : BinOp) : AV → AV → AV
  | .elt _ _ _, .imm (.pointer none) => eqlA op false
  | a, b => binA op a b
def binXC (P : Program) (op : BinOp) (T : TypeId) (cst : Bool) : AV → AV → Prop
  | .elt _ _ _, .imm (.pointer none) => eqlC op ∧ isPtrT P T
  | a, b => binC P op T cst a b
theorem run_eqlN {op : BinOp} {T : TypeId} {x y : Operand} {u v : Value} {b : Bool} (hc : eqlC op) (hg : (eqGuard op T x y u v).run P w = .ok () w) (h1 : binOp .eql T u v = (do pure (.bool (← Op.equal T u v)))) (h2 : binOp .neq T u v = (do pure (.bool (!(← Op.equal T u v))))) (hE : (Op.equal T u v).run P w = .ok b w) :
    ∃ z, (do eqGuard op T x y u v; binOp op T u v : Sem Value).run P w = .ok z w ∧ RN G ν z (eqlA op b) := by
  cases op <;> first
    | exact hc.elim
    | (refine ⟨.bool b, ?_, .sh (.imm _ rfl)⟩; rw [Sem.run_bind, hg, Result.andThen_ok, h1, Sem.run_bind, hE]; rfl)
    | (refine ⟨.bool (!b), ?_, .sh (.imm _ rfl)⟩; rw [Sem.run_bind, hg, Result.andThen_ok, h2, Sem.run_bind, hE]; rfl)
theorem run_binN {op : BinOp} {T : TypeId} {x y : Operand} {a b : AV} {u v : Value} (hu : RN G ν u a) (hv : RN G ν v b) (hc : binC P op T (isConstO x || isConstO y) a b) :
    ∃ z, (do eqGuard op T x y u v; binOp op T u v : Sem Value).run P w = .ok z w ∧ RN G ν z (binA op a b) := by
  unfold binC at hc
  split at hc
  · obtain ⟨xs, rfl, -⟩ := id hu.aggI
    obtain ⟨ys, rfl, -⟩ := id hv.aggI
    obtain ⟨h1, h2⟩ := run_aggEqN (w := w) hu hv hc.2.1 hc.2.2 op x y
    exact run_eqlN hc.1 h2 rfl rfl h1
  · obtain ⟨rfl, _⟩ := hu.immI
    obtain ⟨rfl, _⟩ := hv.immI
    obtain ⟨rfl, hc⟩ := hc
    cases op <;> simp only [intC] at hc <;> first
      | exact hc.elim
      | (refine ⟨_, ?_, .sh (.imm _ rfl)⟩; simp [eqGuard, binOp, Op.intArith, Op.intDiv, Op.intBits, Op.intCmp, hc])
  · obtain ⟨rfl, _⟩ := hu.immI
    obtain ⟨rfl, _⟩ := hv.immI
    have hmx : (IntKind.i64.max : Int) = 9223372036854775807 := by decide
    cases op <;> simp only [strC] at hc <;> first
      | exact hc.elim
      | (refine ⟨_, ?_, .sh (.imm _ rfl)⟩; simp [eqGuard, binOp, Op.stringOp, hmx]; done)
      | (refine ⟨_, ?_, .sh (.imm _ rfl)⟩; simp [eqGuard, binOp, Op.stringOp, hmx]; omega)
  · obtain ⟨rfl, _⟩ := hu.immI
    obtain ⟨rfl, _⟩ := hv.immI
    exact run_eqlN hc.1 (guard_bool _ _ _ _ _ _ _ _) rfl rfl (equal_bool hc.2 _ _ w)
  · obtain ⟨rfl, _⟩ := hu.immI
    obtain ⟨rfl, _⟩ := hv.immI
    exact run_eqlN hc.1 (guard_ptr _ _ _ _ _ _ _ _) rfl rfl (equal_ptr hc.2 _ w)
  · obtain ⟨g, o, rfl, _⟩ := hu.ptrI
    obtain ⟨rfl, _⟩ := hv.immI
    exact run_eqlN hc.1 (guard_ptr _ _ _ _ _ _ _ _) rfl rfl (equal_ptr hc.2 _ w)
  · obtain ⟨g, cap, sz, _, rfl⟩ := hu.refI
    obtain ⟨rfl, _⟩ := hv.immI
    exact run_eqlN hc.1 (guard_ptr _ _ _ _ _ _ _ _) rfl rfl (equal_ptr hc.2 _ w)
  · obtain ⟨rfl, _⟩ := hu.immI
    obtain ⟨rfl, _⟩ := hv.immI
    exact run_eqlN hc.1 (guard_nil _ _ _ _ hc.2.2 _ _) rfl rfl (equal_ifc hc.2.1 w).1
  · obtain ⟨z, rfl, _⟩ := hu.ifcI
    obtain ⟨rfl, _⟩ := hv.immI
    exact run_eqlN hc.1 (guard_ifc _ _ _ _ _ _ _ _) rfl rfl ((equal_ifc hc.2 w).2 _ _)
  · exact hc.elim
theorem run_binX {op : BinOp} {T : TypeId} {x y : Operand} {a b : AV} {u v : Value} (hu : RN G ν u a) (hv : RN G ν v b) (hc : binXC P op T (isConstO x || isConstO y) a b) :
    ∃ z, (do eqGuard op T x y u v; binOp op T u v : Sem Value).run P w = .ok z w ∧ RN G ν z (binX op a b) := by
  unfold binXC at hc
  split at hc
  · obtain ⟨g, cap, sz, _, rfl⟩ := hu.eltI
    obtain ⟨rfl, _⟩ := hv.immI
    exact run_eqlN hc.1 (guard_ptr _ _ _ _ _ _ _ _) rfl rfl (equal_ptr hc.2 _ w)
  · next hne =>
    have e : binX op a b = binA op a b := by
      unfold binX
      split
      · exact absurd rfl (hne _ _ _ rfl)
      · rfl
    rw [e]
    exact run_binN hu hv hc
end
end Go.Proofs.YtldnkeackphilaaGreatDoor.X
