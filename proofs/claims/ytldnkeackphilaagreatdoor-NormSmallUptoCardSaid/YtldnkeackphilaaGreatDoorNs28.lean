/- norm's functions by the linear calculus: a condition. -/
import Derived.Test.YtldnkeackphilaaGreatDoorNs27
import Derived.Test.YtldnkeackphilaaGreatDoorNs25
set_option linter.unusedSimpArgs false
set_option linter.unusedVariables false
namespace Go.Proofs.YtldnkeackphilaaGreatDoor.X
open Go.RowKit

set_option maxRecDepth 8000
def CondC (ps : List Part) (n : Nat) : Prop := ∀ (i f : Nat) (s : Int) (p : Part), ps[i]? = some p → isCondF p.kind = true → i < n → i < f → 0 ≤ s ∧ s ≤ 1 → Has Tryz.prog 38 [mkA ps, iA i, iA s] (treeA (condF ps f i s)) noTok
def MemC (ps : List Part) (n f : Nat) : Prop := ∀ (i : Nat) (p : Part) (a b : Nat) (s : Int), ps[i]? = some p → p.kind = 7 → i ≤ n → p.kids = [(a : Int), (b : Int)] → 0 ≤ s ∧ s ≤ 1 → Has Tryz.prog 65 [mkA ps, iA a, iA b, iA s] (treeA (memberF (condF ps f) ps a b s)) noTok
set_option maxHeartbeats 2000000 in
theorem cond_aux (ps : List Part) (i : Nat) (kind : Int) (text : ByteArray) (num : Int) (kids : List Int) (hp : ps[i]? = some ⟨kind, text, num, kids⟩) (s : Int) (hs : 0 ≤ s ∧ s ≤ 1) (hlen : kids.length ≤ 1000) (c : Int → Int → Tr) (res : Tr) (hr : Hid (res = condStep c ps i s))
    (hK : Hid (kind = 3 ∨ kind = 4 ∨ kind = 5 ∨ kind = 8 ∨ kind = 9 → ∀ k ∈ kids, ∀ s, 0 ≤ s ∧ s ≤ 1 → Has Tryz.prog 38 [mkA ps, iA k, iA s] (treeA (c k s)) noTok))
    (h1 : Hid (kind = 3 ∨ kind = 8 ∨ kind = 9 → ∃ k, kids = [k]))
    (h6 : Hid (kind = 6 → ∃ j k, kids = [j, k] ∧ inR (opdF c ps j) ∧ inR (opdF c ps k) ∧ Has Tryz.prog 100 [mkA ps, iA j] (.agg (opdF c ps j).cs) noTok ∧ Has Tryz.prog 100 [mkA ps, iA k] (.agg (opdF c ps k).cs) noTok))
    (h7 : Hid (kind = 7 → ∃ j k, kids = [j, k] ∧ ∀ s, 0 ≤ s ∧ s ≤ 1 → Has Tryz.prog 65 [mkA ps, iA j, iA k, iA s] (treeA (memberF c ps j k s)) noTok))
    (hkd : kind = 1 ∨ kind = 2 ∨ kind = 3 ∨ kind = 4 ∨ kind = 5 ∨ kind = 6 ∨ kind = 7 ∨ kind = 8 ∨ kind = 9 ∨ kind = 10) : Has Tryz.prog 38 [mkA ps, iA i, iA s] (treeA res) noTok := by
  have hl : i < ps.length := (List.getElem?_eq_some_iff.1 hp).1
  have hg : ps[i] = ⟨kind, text, num, kids⟩ := by simpa [List.getElem?_eq_getElem hl] using hp
  have hP : partAt ps i = ⟨kind, text, num, kids⟩ := partAt_nat hp
  refine fnX mixed ⟨[0, 1, 2, 6, 7, 8, 10, 19, 20, 28, 38, 42, 43, 44, 45, 61, 66, 72, 79, 86, 94], [7, 8, 53, 54, 85], [(7, [7]), (31, [7]), (98, [7]), (102, [7])], [], []⟩ Tryz.func38 rfl rfl rfl (by kernel_rfl) (by simp) ?_
  rcases hkd with h | h | h | h | h | h | h | h | h | h <;> subst h
  · simp [psA, mkA, hg, hl, pCs]
    refine callP_of (truth_h true s) (by simp) (by simp) ?_
    simp [hr.out, condStep, hP]
  · simp [psA, mkA, hg, hl, pCs]
    refine callP_of (truth_h false s) (by simp) (by simp) ?_
    simp [hr.out, condStep, hP]
  · obtain ⟨k, rfl⟩ := h1.out (by simp)
    have hC := hK.out (by simp) k (by simp) (1 - s) (by omega)
    simp [psA, mkA, hg, hl, pCs, intsA]
    refine callP_of (other_h s hs) (by simp) (by simp) ?_
    simp
    refine callP_of hC (by simp) (by simp) ?_
    simp [hr.out, condStep, hP]
  · simp [psA, mkA, hg, hl, pCs, intsA]
    refine wF_loop [.slot 8 8 99] [.slot 7 7, .slot 8 8] [0, 2, 6, 7, 8, 42, 43, 44] (fun n : Nat => St.asc [(0, mkA ps), (2, iA s), (6, .imm (.pointer none)), (7, .ref 7 0), (8, .rw 8 0 n), (42, .sl (kids.map fun k => [iA k])), (43, iA kids.length), (44, iA n)]
      [(7, .box 66 [iA 4, sA text, iA num, .sl (kids.map fun k => [iA k])]), (8, .row 99 ((kids.map fun k => [treeA (c k s)]).take n))] [(7, true), (8, true)] false) (fun n => n ≤ kids.length) (fun n => kids.length - n) 0 _ (by simp) (by simp [mkA, psA]) (by simp) ?_
    rintro n hn
    by_cases h : n < kids.length
    · have hx : kids[n]? = some kids[n] := List.getElem?_eq_getElem h
      have hC := hK.out (by simp) kids[n] (List.getElem_mem h) s hs
      have htk : (kids.map fun k => [treeA (c k s)]).take (n + 1) = (kids.map fun k => [treeA (c k s)]).take n ++ [[treeA (c kids[n] s)]] := by rw [List.take_add_one, List.getElem?_map, hx]; rfl
      generalize kids[n] = k at *
      have h1 : IntKind.i64.wrap ((n : Int) + 1) = (n : Int) + 1 := wrap64 (by omega) (by omega)
      have hmin : min n kids.length = n := by omega
      simp [hx, h, mkA, psA, -getElem?_pos]
      refine callP_of hC (by simp) (by simp) ?_
      simp [h1, hmin]
      refine ⟨⟨by omega, by omega⟩, n + 1, ?_, by omega, by omega⟩
      simp [htk, mkA, psA, List.take_take]
    · obtain rfl : n = kids.length := by omega
      have hlen : List.take kids.length (List.map (fun k => [treeA (c k s)]) kids) = List.map (fun k => [treeA (c k s)]) kids := List.take_of_length_le (by simp)
      have hJ : ∀ d : Int, Has Tryz.prog 61 [iA d, .sl (kids.map fun k => [treeA (c k s)])] (treeA (joinF d (kids.map fun k => c k s))) noTok := fun d => by
        have := joined_h d (kids.map fun k => c k s) (by simp; omega)
        rw [List.map_map] at this
        exact this
      simp [hlen]
      refine ⟨fun hz => ?_, fun hz => ?_⟩
      · refine callP_of (hJ 3) (by simp) (by simp) ?_
        simp [hr.out, condStep, hP, hz]
      · refine callP_of (hJ 4) (by simp) (by simp) ?_
        simp [hr.out, condStep, hP, hz]
  · simp [psA, mkA, hg, hl, pCs, intsA]
    refine wF_loop [.slot 8 8 99] [.slot 7 7, .slot 8 8] [0, 2, 6, 7, 8, 42, 43, 44] (fun n : Nat => St.asc [(0, mkA ps), (2, iA s), (6, .imm (.pointer none)), (7, .ref 7 0), (8, .rw 8 0 n), (42, .sl (kids.map fun k => [iA k])), (43, iA kids.length), (44, iA n)]
      [(7, .box 66 [iA 5, sA text, iA num, .sl (kids.map fun k => [iA k])]), (8, .row 99 ((kids.map fun k => [treeA (c k s)]).take n))] [(7, true), (8, true)] false) (fun n => n ≤ kids.length) (fun n => kids.length - n) 0 _ (by simp) (by simp [mkA, psA]) (by simp) ?_
    rintro n hn
    by_cases h : n < kids.length
    · have hx : kids[n]? = some kids[n] := List.getElem?_eq_getElem h
      have hC := hK.out (by simp) kids[n] (List.getElem_mem h) s hs
      have htk : (kids.map fun k => [treeA (c k s)]).take (n + 1) = (kids.map fun k => [treeA (c k s)]).take n ++ [[treeA (c kids[n] s)]] := by rw [List.take_add_one, List.getElem?_map, hx]; rfl
      generalize kids[n] = k at *
      have h1 : IntKind.i64.wrap ((n : Int) + 1) = (n : Int) + 1 := wrap64 (by omega) (by omega)
      have hmin : min n kids.length = n := by omega
      simp [hx, h, mkA, psA, -getElem?_pos]
      refine callP_of hC (by simp) (by simp) ?_
      simp [h1, hmin]
      refine ⟨⟨by omega, by omega⟩, n + 1, ?_, by omega, by omega⟩
      simp [htk, mkA, psA, List.take_take]
    · obtain rfl : n = kids.length := by omega
      have hlen : List.take kids.length (List.map (fun k => [treeA (c k s)]) kids) = List.map (fun k => [treeA (c k s)]) kids := List.take_of_length_le (by simp)
      have hJ : ∀ d : Int, Has Tryz.prog 61 [iA d, .sl (kids.map fun k => [treeA (c k s)])] (treeA (joinF d (kids.map fun k => c k s))) noTok := fun d => by
        have := joined_h d (kids.map fun k => c k s) (by simp; omega)
        rw [List.map_map] at this
        exact this
      simp [hlen]
      refine ⟨fun hz => ?_, fun hz => ?_⟩
      · refine callP_of (hJ 3) (by simp) (by simp) ?_
        simp [hr.out, condStep, hP, hz]
      · refine callP_of (hJ 4) (by simp) (by simp) ?_
        simp [hr.out, condStep, hP, hz]
  · obtain ⟨j, k, rfl, r1, r2, o1, o2⟩ := h6.out rfl
    simp [psA, mkA, hg, hl, pCs, intsA]
    refine callP_of (compared_aux 6 text num j k ps s hs _ _ o1 o2 r1 r2 _ (Lib.hid rfl)) (by simp) (by simp) ?_
    simp [hr.out, condStep, hP, comparedF]
  · obtain ⟨j, k, rfl, hm⟩ := h7.out rfl
    simp [psA, mkA, hg, hl, pCs, intsA]
    refine ⟨fun hn => ?_, fun hn => ?_⟩
    · refine callP_of (other_h s hs) (by simp) (by simp) ?_
      simp
      refine callP_of (hm (1 - s) (by omega)) (by simp) (by simp) ?_
      simp [hr.out, condStep, hP, hn]
    · refine callP_of (hm s hs) (by simp) (by simp) ?_
      simp [hr.out, condStep, hP, hn]
  · obtain ⟨k, rfl⟩ := h1.out (by simp)
    have hC := hK.out (by simp) k (by simp) 0 (by omega)
    simp [psA, mkA, hg, hl, pCs, intsA]
    refine callP_of (near_h ⟨8, text, num, [k]⟩ k [] rfl ps s _ hC) (by simp) (by simp) ?_
    simp [hr.out, condStep, hP, nearF]
  · obtain ⟨k, rfl⟩ := h1.out (by simp)
    have hC := hK.out (by simp) k (by simp) 0 (by omega)
    simp [psA, mkA, hg, hl, pCs, intsA]
    refine callP_of (other_h s hs) (by simp) (by simp) ?_
    simp
    refine callP_of (near_h ⟨9, text, num, [k]⟩ k [] rfl ps (1 - s) _ hC) (by simp) (by simp) ?_
    simp [hr.out, condStep, hP, nearF]
  · simp [psA, mkA, hg, hl, pCs]
    refine callH_of [] [(2000, 85)] (literal_h { LitD.zero with kind := 6, key := text } s) (by simp [litCs, LitD.zero, TermD.zero, noText, strsA, intsA]) (by simp) (by simp) ?_
    simp [treeCs, strsA, intsA]
    simp [hr.out, condStep, hP, Tr.lit, tree_mk, treeCs, strsA, intsA, selA_none]
theorem kid_of (ps : List Part) (hw : WF ps) (n : Nat) (p : Part) (hp : ps[n]? = some p) (k : Int) (hk : k ∈ p.kids) : ∃ (i : Nat) (q : Part), k = i ∧ i < n ∧ ps[i]? = some q ∧ kidFitsF p.kind q.kind = true := by
  have h1 := hw.kids n p hp k hk
  have h2 := hw.kinds n p hp k hk
  have hl : k.toNat < ps.length := by have := (List.getElem?_eq_some_iff.1 hp).1; omega
  have hq : ps[k.toNat]? = some ps[k.toNat] := List.getElem?_eq_getElem hl
  refine ⟨k.toNat, ps[k.toNat], by omega, by omega, hq, ?_⟩
  have : kindAt ps k = ps[k.toNat].kind := by simp [kindAt, hq]
  rwa [this] at h2
theorem opd_inR (ps : List Part) (hw : WF ps) (c : Int → Int → Tr) (k : Nat) (p : Part) (hp : ps[k]? = some p) : inR (opdF c ps k) := by
  have hfit := hw.fits k p hp
  have hnum : numFitsF p.kind p.num = true := by simp only [partFitsF, Bool.and_eq_true, decide_eq_true_eq] at hfit; exact hfit.1.2
  rw [opdF, partAt_nat hp]
  unfold opdOf inR
  dsimp only
  repeat' split
  all_goals try (simp; done)
  · rename_i h
    simp only [numFitsF, h] at hnum
    simp at hnum
    simp only
    omega
  · have := intF_range (by assumption)
    simp only
    omega
theorem side_ops (ps : List Part) (ht : TT ps) (n f : Nat) (hn : n ≤ f) (H : CondC ps n) (k : Nat) (hk : k ≤ n) (p : Part) (hp : ps[k]? = some p) (hs : sideK p.kind) :
    Has Tryz.prog 100 [mkA ps, iA k] (.agg (opdF (condF ps f) ps k).cs) noTok := by
  have hfit := ht.wf.fits k p hp
  have hkd := ht.wf.kids k p hp
  have hcnt : kidCountF p.kind p.kids.length = true := by simp only [partFitsF, Bool.and_eq_true, decide_eq_true_eq] at hfit; exact hfit.2
  have one : p.kind = 20 ∨ p.kind = 19 → ∃ i : Nat, p.kids = [(i : Int)] ∧ i < k := fun h => by
    have h1 : (p.kids.length : Int) = 1 := by rcases h with h | h <;> simpa [kidCountF, h] using hcnt
    replace h1 : p.kids.length = 1 := by omega
    match hl : p.kids, h1 with
    | [a], _ =>
      have := hkd a (by simp [hl])
      exact ⟨a.toNat, by congr; omega, by omega⟩
  refine operand_h ps (condF ps f) k p hp hs (fun h => ?_) (fun h => ?_)
  · obtain ⟨i, hi, hik⟩ := one (.inl h)
    obtain ⟨i', q, he, h1, hq, hf⟩ := kid_of ps ht.wf k p hp i (by simp [hi])
    obtain rfl : i' = i := by omega
    exact ⟨i', [], hi, H i' f 0 q hq (by simpa [kidFitsF, h] using hf) (by omega) (by omega) (by omega)⟩
  · obtain ⟨i, hi, hik⟩ := one (.inr h)
    have hl : i < ps.length := by have := (List.getElem?_eq_some_iff.1 hp).1; omega
    refine ⟨i, [], ps[i], hi, List.getElem?_eq_getElem hl, ?_⟩
    have := ht.wf.fits i _ (List.getElem?_eq_getElem hl)
    simp only [partFitsF, Bool.and_eq_true, decide_eq_true_eq] at this
    omega
theorem cond_step (ps : List Part) (ht : TT ps) (n : Nat) (H : CondC ps n) (f : Nat) (hm : MemC ps n f) (hnf : n ≤ f) (s : Int) (hs : 0 ≤ s ∧ s ≤ 1) (p : Part) (hp : ps[n]? = some p) (hc : isCondF p.kind = true) :
    Has Tryz.prog 38 [mkA ps, iA n, iA s] (treeA (condF ps (f + 1) n s)) noTok := by
  have hfit := ht.wf.fits n p hp
  have hkd := ht.wf.kids n p hp
  have hcnt : kidCountF p.kind p.kids.length = true := by simp only [partFitsF, Bool.and_eq_true, decide_eq_true_eq] at hfit; exact hfit.2
  have two : p.kind = 6 ∨ p.kind = 7 → ∃ i j : Nat, p.kids = [(i : Int), (j : Int)] ∧ i < n ∧ j < n := fun h => by
    have h1 : (p.kids.length : Int) = 2 := by rcases h with h | h <;> simpa [kidCountF, h] using hcnt
    replace h1 : p.kids.length = 2 := by omega
    match hl : p.kids, h1 with
    | [a, b], _ =>
      have h2 := hkd a (by simp [hl])
      have h3 := hkd b (by simp [hl])
      exact ⟨a.toNat, b.toNat, by rw [Int.toNat_of_nonneg h2.1, Int.toNat_of_nonneg h3.1], by omega, by omega⟩
  have hnl : n < ps.length := (List.getElem?_eq_some_iff.1 hp).1
  refine cond_aux ps n p.kind p.text p.num p.kids hp s hs (ht.cnt n p hp) (condF ps f) _ (Lib.hid rfl) (Lib.hid fun hkk k hk s hs => ?_) (Lib.hid fun h => ?_) (Lib.hid fun h => ?_) (Lib.hid fun h => ?_) ?_
  · obtain ⟨i', q, rfl, h1, hq, hf⟩ := kid_of ps ht.wf n p hp k hk
    exact H i' f s q hq (by rcases hkk with h | h | h | h | h <;> simpa [kidFitsF, h] using hf) (by omega) (by omega) hs
  · have h1 : (p.kids.length : Int) = 1 := by rcases h with h | h | h <;> simpa [kidCountF, h] using hcnt
    replace h1 : p.kids.length = 1 := by omega
    match hl : p.kids, h1 with
    | [a], _ => exact ⟨a, rfl⟩
  · obtain ⟨i, j, hk, hi, hj⟩ := two (.inl h)
    have hsd := ht.cmp n p hp h
    have hpi : ps[i]? = some ps[i] := List.getElem?_eq_getElem (by omega)
    have hpj : ps[j]? = some ps[j] := List.getElem?_eq_getElem (by omega)
    simp only [hk, List.getD_cons_zero, List.getD_cons_succ, partAt_nat hpi, partAt_nat hpj] at hsd
    exact ⟨i, j, hk, opd_inR ps ht.wf _ i _ hpi, opd_inR ps ht.wf _ j _ hpj, side_ops ps ht n f hnf H i (by omega) _ hpi hsd.1, side_ops ps ht n f hnf H j (by omega) _ hpj hsd.2⟩
  · obtain ⟨i, j, hk, hi, hj⟩ := two (.inr h)
    exact ⟨i, j, hk, fun s hs => hm n p i j s hp h (Nat.le_refl _) hk hs⟩
  · simp only [isCondF, Bool.and_eq_true, decide_eq_true_eq] at hc
    omega
theorem cond_all (ps : List Part) (ht : TT ps) (hm : ∀ n f, n ≤ f → CondC ps n → MemC ps n f) : ∀ n, CondC ps n
  | 0 => fun i f s p _ _ hi => by omega
  | n + 1 => fun i f s p hp hc hi hf hs => by
    have ih := cond_all ps ht hm n
    rcases Nat.lt_or_ge i n with h | h
    · exact ih i f s p hp hc h hf hs
    · obtain rfl : i = n := by omega
      match f, hf with
      | f + 1, hf => exact cond_step ps ht i ih f (hm i f (by omega) ih) (by omega) s hs p hp hc
end Go.Proofs.YtldnkeackphilaaGreatDoor.X
/- norm: what older proofs show, as contracts of the calculus. -/
namespace Go.Proofs.YtldnkeackphilaaGreatDoor.X
open Go.RowKit

structure PB (ps : List Part) : Prop where
  len : ps.length ≤ 4398046510976
  part : ∀ p ∈ ps, R64 p.kind ∧ R64 p.num ∧ p.text.size ≤ 140737488351232 ∧ p.kids.length ≤ 35184372088064 ∧ ∀ k ∈ p.kids, R64 k
theorem cell_imm {G : Gh} {w : World} (hc : CellsR G w) {g i : Nat} {v : Value} (h : G g i (.imm v)) : w.cell? ⟨g, i, none⟩ = some v := by
  obtain ⟨u, h1, _, h3⟩ := hc.get _ _ _ h
  cases h3
  exact h1
theorem glob_of {G : Gh} {w : World} (hc : CellsR G w) : Glob w := ⟨hc.gl.ml.imp fun _ h => cell_imm hc h, cell_imm hc hc.gl.et⟩
theorem ints_of {G : Gh} {w : World} (hc : CellsR G w) {v : Value} {l : List Int} (h : RS G v (intsA l)) (hl : l.length ≤ 35184372088064) (hk : ∀ k ∈ l, R64 k) : IntsV w v l := by
  unfold intsA at h
  generalize hes : l.map (fun n => [iA n]) = es at h
  have hlen : es.length = l.length := by rw [← hes]; simp
  cases h with
  | nil =>
    have : l = [] := List.eq_nil_of_length_eq_zero (by simpa using hlen.symm)
    subst this
    exact ⟨_, 0, rfl, by simp, fun j x hx => by simp at hx⟩
  | sl g o sz c _ hsz hcp hcell =>
    refine ⟨some ⟨g, o, none⟩, c, by rw [hlen], hl, fun j x hx => ⟨hk x (List.mem_of_getElem? hx), g, o, rfl, ?_⟩⟩
    have he : es[j]? = some [iA x] := by rw [← hes, List.getElem?_map, hx]; rfl
    have h1 : sz = 1 := (hsz _ (List.mem_of_getElem? he)).symm
    have h2 := cell_imm hc (hcell j _ 0 _ he rfl)
    rw [h1, Nat.mul_one, Nat.add_zero] at h2
    exact ⟨World.block_lt_of_cell? w _ h2, h2⟩
theorem parts_of {G : Gh} {w : World} (hc : CellsR G w) {v : Value} {ps : List Part} (h : RS G v (psA ps)) (hb : PB ps) : PartsV w v ps := by
  unfold psA at h
  generalize hes : ps.map pCs = es at h
  have hlen : es.length = ps.length := by rw [← hes]; simp
  cases h with
  | nil =>
    have : ps = [] := List.eq_nil_of_length_eq_zero (by simpa using hlen.symm)
    subst this
    exact ⟨_, 0, rfl, by simp, fun j x hx => by simp at hx⟩
  | sl g o sz c _ hsz hcp hcell =>
    refine ⟨some ⟨g, o, none⟩, c, by rw [hlen], hb.len, fun j p hp => ?_⟩
    obtain ⟨b1, b2, b3, b4, b5⟩ := hb.part p (List.mem_of_getElem? hp)
    have he : es[j]? = some (pCs p) := by rw [← hes, List.getElem?_map, hp]; rfl
    have h1 : sz = 4 := (hsz _ (List.mem_of_getElem? he)).symm
    subst h1
    obtain ⟨kv, k1, _, k3⟩ := hc.get _ _ _ (hcell j _ 3 (intsA p.kids) he rfl)
    exact ⟨g, o, kv, rfl, World.block_lt_of_cell? w _ k1, ⟨b1, b2, b3, ints_of hc k3 b4 b5⟩, cell_imm hc (hcell j _ 0 _ he rfl), cell_imm hc (hcell j _ 1 _ he rfl), cell_imm hc (hcell j _ 2 _ he rfl), k1⟩
theorem has_more {P : Program} {f : FuncId} {fn : Func} {c : Code} {args : List AV} {a : AV} (hf : P.funcs[f]? = some fn) (hb : fn.body = some c) (hn : (fn.name == "runtime.NumGoroutine") = false) (ha : a.final = true)
    (h : ∀ G w (vals : Array Value), CellsR G w → vals.size = args.length → (∀ (i : Nat) v b, vals[i]? = some v → args[i]? = some b → RS G v b) → Calls P f vals w fun e w' => ∃ v G', e = .returned v ∧ Below w.heap.size w w' ∧ CellsR G' w' ∧ Gle G G' ∧ (∀ g, g < w.heap.size → G' g = G g) ∧ RS G' v a) : Has P f args a noTok := by
  refine ⟨ha, fun vals w => enters_of hf hb hn vals w, fun G w vals hc hl hv => ?_⟩
  refine (h G w vals hc hl hv).mono ?_
  rintro e w' ⟨v, G', rfl, hB, hc', hle, hG, h2⟩
  refine ⟨v, G', noOm, rfl, ⟨⟨rfl, hc', fun g p hp => (by cases hp), fun t => ?_, fun t k E hE => ?_⟩, fun t k E hE => ?_⟩, hB.os, hB.tape, hB.output, hB.size, hle, fun g hg _ => ⟨hB.block g hg, hG g hg, rfl⟩⟩
  · by_cases ht : t = 0
    · subst ht
      exact .sh h2
    · have : (Go.Proofs.YtldnkeackphilaaGreatDoor.St.one a noTok).val t = .dead := by simp [Go.Proofs.YtldnkeackphilaaGreatDoor.St.one, ht]
      rw [this]
      exact .dead _
  · simp [Go.Proofs.YtldnkeackphilaaGreatDoor.St.one, noTok] at hE
  · simp [Go.Proofs.YtldnkeackphilaaGreatDoor.St.one, noTok] at hE
theorem cells_below {G : Gh} {w w' : World} (hc : CellsR G w) (hB : Below w.heap.size w w') : CellsR G w' := cells_old hc fun g ⟨i, a, hg⟩ => hB.block g (ghost_lt hc hg)
theorem valid_ok (ps : List Part) (hb : PB ps) (hv : validF ps = none) : Has Tryz.prog 19 [.agg [psA ps]] (.imm .nilIface) noTok := by
  refine has_more Tryz.func19 rfl rfl rfl fun G w vals hc hl hr => ?_
  obtain ⟨l⟩ := vals
  match l, hl with
  | [v], _ =>
    have h0 := hr 0 v (.agg [psA ps]) rfl rfl
    cases h0 with
    | agg vs _ hl1 h1 h2 =>
      obtain ⟨l⟩ := vs
      match l, hl1 with
      | [pv], _ =>
        have hp := parts_of hc (h2 0 pv _ rfl rfl) hb
        refine (valid_c ps pv w hp).mono ?_
        rintro e w' ⟨v, rfl, hv'⟩
        rw [hv] at hv'
        obtain ⟨hB, rfl⟩ := hv'
        exact ⟨_, G, rfl, hB, cells_below hc hB, .refl _, fun _ _ => rfl, .imm _ rfl⟩
theorem check_ok (ps : List Part) (scope : Int) (hsc : R64 scope) (hb : PB ps) (ts : List (Int × Int)) (hv : checkF ps scope = .inr ts) : Has Tryz.prog 20 [.agg [psA ps], iA scope] (.tup [.sl (ts.map fun t => [iA t.1, iA t.2]), .imm .nilIface]) noTok := by
  refine has_more Tryz.func20 rfl rfl rfl fun G w vals hc hl hr => ?_
  obtain ⟨l⟩ := vals
  match l, hl with
  | [v, sc], _ =>
    have h0 := hr 0 v (.agg [psA ps]) rfl rfl
    have hs := hr 1 sc (iA scope) rfl rfl
    cases hs
    cases h0 with
    | agg vs _ hl1 h1 h2 =>
      obtain ⟨l⟩ := vs
      match l, hl1 with
      | [pv], _ =>
        have hp := parts_of hc (h2 0 pv _ rfl rfl) hb
        refine (check_c ps pv scope w hp (glob_of hc) hsc).mono ?_
        rintro e w' ⟨tv, ev, rfl, hv'⟩
        rw [hv] at hv'
        obtain ⟨hB, rfl, hT, B, hwB, hO⟩ := hv'
        have hc' := cells_below hc hB
        have htup : ∀ {G' : Gh} {tv : Value}, RS G' tv (.sl (ts.map fun t => [iA t.1, iA t.2])) → RS G' (.tuple #[tv, .nilIface]) (.tup [.sl (ts.map fun t => [iA t.1, iA t.2]), .imm .nilIface]) := fun h => .tup _ _ rfl fun j v a h1 h2 => by
          match j with
          | 0 => cases h1; cases h2; exact h
          | 1 => cases h1; cases h2; exact .imm _ rfl
          | j + 2 => simp at h1
        rcases id hO with ⟨hx, ⟨rfl, h0⟩ | ⟨g, cap, cur, rfl, hg, hh, hcap, -⟩⟩
        · have : ts = [] := List.eq_nil_of_length_eq_zero h0
          subst this
          exact ⟨_, G, rfl, hB, hc', .refl _, fun _ _ => rfl, htup .nil⟩
        · have hle := gset_le G g fun j => ((tcells ts)[j]?).map AV.imm
          refine ⟨_, gset G g fun j => ((tcells ts)[j]?).map AV.imm, rfl, hB, ⟨fun g0 i a hga => ?_, hc.gl.mono hle⟩, hle, fun g0 hg0 => gset_ne _ _ (by omega), htup ?_⟩
          · rcases hga with hga | ⟨rfl, hga⟩
            · obtain ⟨v, k1, k2, k3⟩ := hc'.get _ _ _ hga
              exact ⟨v, k1, k2, k3.mono hle⟩
            · obtain ⟨u, hu, rfl⟩ := Option.map_eq_some_iff.1 hga
              have hcell := World.ownsRow.cells hO (g := g0) rfl i u hu
              rw [Addr.add_mid, Nat.zero_add] at hcell
              refine ⟨u, hcell, ?_⟩
              have hone : u.oneCell' = true := by
                have := List.mem_of_getElem? hu
                simp only [tcells, List.mem_flatMap] at this
                obtain ⟨t, _, ht⟩ := this
                simp at ht
                rcases ht with rfl | rfl <;> rfl
              exact ⟨hone, .imm _ hone⟩
          · have hlen : ts.length = (ts.map fun t => [iA t.1, iA t.2]).length := by simp
            rw [hlen]
            refine .sl g 0 2 cap _ (fun e he => ?_) (by simpa using hcap) fun i e j a he ha => .inr ⟨rfl, ?_⟩
            · obtain ⟨t, _, rfl⟩ := List.mem_map.1 he
              rfl
            · rw [List.getElem?_map] at he
              obtain ⟨t, ht, rfl⟩ := Option.map_eq_some_iff.1 he
              obtain ⟨k1, k2⟩ := tcells_at ts i t ht
              match j with
              | 0 => cases ha; simp [k1]
              | 1 => cases ha; simp [k2]
              | j + 2 => simp at ha
end Go.Proofs.YtldnkeackphilaaGreatDoor.X
/- norm's functions by the linear calculus: writing a tree. -/
namespace Go.Proofs.YtldnkeackphilaaGreatDoor.X
open Go.RowKit

set_option maxRecDepth 8000
@[simp] theorem tr_binX (op : BinOp) (t : Tr) : binX op (treeA t) (.imm (.pointer none)) = eqlA op false := by simpa [selA_some] using sel_binX op (some t)
@[simp] theorem tr_binXC (P : Program) (op : BinOp) (T : TypeId) (c : Bool) (t : Tr) : binXC P op T c (treeA t) (.imm (.pointer none)) = (eqlC op ∧ ptrP P T = true) := by simpa [selA_some] using sel_binXC P op T c (some t)
def selsR (n : Nat) (l : List (List PartD)) : Nat × Blk := (n, .row 22 (l.map fun x => [partsA x]))
def listR (n : Nat) (l : List PartD) : Nat × Blk := (n, .row 63 (l.map partCs))
def selsC : Option (List (List PartD)) → AV
  | none => .nl
  | some l => .rw 1001 0 l.length
def listC : Option (List PartD) → AV
  | none => .nl
  | some l => .rw 1002 0 l.length
def lentW (ls : Option (List PartD)) (ss : Option (List (List PartD))) : List (Nat × Blk) :=
  (1000, .box 104 [selsC ss]) :: ((match ss with | none => [] | some l => [selsR 1001 l]) ++ (match ls with | none => [] | some l => [listR 1002 l]))
def doneW (q : List PartD × List (List PartD)) : List (Nat × Blk) := [(1000, .box 104 [.rw 2001 0 q.2.length]), selsR 2001 q.2, listR 2000 q.1]
theorem kids_le : ∀ l : List Tr, l.length ≤ cntKs l
  | [] => by simp
  | t :: r => by have := kids_le r; have := cnt_one t; simp only [List.length_cons, cntKs]; omega
theorem sel_lt {t u : Tr} (h : t.sel = some u) : cntT u < cntT t := by rw [cnt_kids t, h]; dsimp only; omega
def WriteC (t : Tr) : Prop := ∀ (ls : Option (List PartD)) (ss : Option (List (List PartD))), (ls.getD []).length + cntT t ≤ 100000 → (ss.getD []).length + cntT t ≤ 100000 →
  Hs Tryz.prog 39 [.ref 1000 0, treeA t, listC ls] (lentW ls ss) (.rw 2000 0 (writeT t (ls.getD []) (ss.getD [])).1.length) [1000] (doneW (writeT t (ls.getD []) (ss.getD [])))
theorem foldK_len (l : List Tr) (list : List PartD) (sels : List (List PartD)) (at_ : List Int) : (l.foldl stepK (list, sels, at_)).1.length ≤ list.length + cntKs l ∧ (l.foldl stepK (list, sels, at_)).2.1.length ≤ sels.length + cntKs l := by
  rw [← writeKs_fold]; exact writeKs_len l list sels at_
theorem foldK_at : ∀ (l : List Tr) (x : List PartD × List (List PartD) × List Int), (l.foldl stepK x).2.2.length = x.2.2.length + l.length
  | [], x => by simp
  | t :: r, x => by rw [List.foldl_cons, foldK_at r]; simp [stepK]; omega
set_option maxHeartbeats 4000000 in
theorem write_aux (t : Tr) (IH : ∀ u, cntT u < cntT t → WriteC u) : WriteC t := by
  intro ls ss hl hs
  have hcnt := cnt_kids t
  have hkl := kids_le t.kids
  refine hsX mixed ⟨[0, 1, 2, 6, 7, 9, 10, 11, 15, 16, 17, 18, 50, 54], [1000, 1001, 1002, 7, 24, 10024, 29, 30, 10, 75, 10075, 82, 83, 88, 89], [(7, [7]), (10, [10]), (44, [7]), (45, [7])], [(14, [75]), (15, [7])], [1000]⟩ [] [] [.keep 1000, .cell 1000 0 2001, .slot 6 2000] Tryz.func39 rfl rfl rfl (by kernel_rfl) (by simp [lentW]) ?_
  cases ls <;> cases ss
  all_goals
    simp only [Option.getD_none, Option.getD_some] at hl hs ⊢
    simp [lentW, selsC, listC, listR, selsR, treeCs]
  case none.none =>
    refine wF_loop [.slot 2 1002 63, .cell 1000 0 1001 22, .slot 7 7 3] [.keep 1000, .cell 1000 0 1001, .slot 2 1002, .slot 7 7] [0, 1, 2, 7, 15, 16, 17]
      (fun x : Nat × List PartD × List (List PartD) × List Int => St.asc [(0, .ref 1000 0), (1, treeA t), (2, .rw 1002 0 x.2.1.length), (7, .rw 7 0 x.2.2.2.length), (15, .sl (t.kids.map fun t => [treeA t])), (16, iA t.kids.length), (17, iA x.1)]
        [(1000, .box 104 [.rw 1001 0 x.2.2.1.length]), (1001, .row 22 (x.2.2.1.map fun y => [partsA y])), (1002, .row 63 (x.2.1.map partCs)), (7, .row 3 (x.2.2.2.map fun n => [iA n]))] [(1000, true), (1001, true), (1002, true), (7, true)] false)
      (fun x => x.1 ≤ t.kids.length ∧ x.2 = (t.kids.take x.1).foldl stepK ([], [], [])) (fun x => t.kids.length - x.1) (0, [], [], []) _ (by simp) (by simp) (by simp) ?_
    rintro ⟨i, l, s, a⟩ ⟨hi, hr⟩
    dsimp only at hi hr ⊢
    by_cases h : i < t.kids.length
    · have hx : t.kids[i]? = some t.kids[i] := List.getElem?_eq_getElem h
      have h1 : IntKind.i64.wrap ((i : Int) + 1) = (i : Int) + 1 := wrap64 (by omega) (by omega)
      have htk : t.kids.take (i + 1) = t.kids.take i ++ [t.kids[i]] := by rw [List.take_add_one, hx]; rfl
      have hct := cntKs_take t.kids i h
      have hfl := foldK_len (t.kids.take i) [] [] []
      rw [← hr] at hfl
      dsimp only at hfl
      have hu := write_len t.kids[i] l s
      have hat := foldK_at (t.kids.take i) ([], [], [])
      rw [← hr, List.length_take] at hat
      simp only [List.length_nil] at hat
      have hC := IH t.kids[i] (by omega) (some l) (some s) (by simp at hfl ⊢; omega) (by simp at hfl ⊢; omega)
      have hr' : (t.kids.take (i + 1)).foldl stepK ([], [], []) = stepK (l, s, a) t.kids[i] := by rw [htk, List.foldl_append, ← hr]; rfl
      obtain ⟨u, eu⟩ : ∃ u, u = t.kids[i] := ⟨_, rfl⟩
      simp only [Option.getD_some] at hC
      rw [← eu] at hC hx hr' hu hct
      obtain ⟨q, hq⟩ : ∃ q, q = writeT u l s := ⟨_, rfl⟩
      rw [← hq] at hC hu
      clear IH htk eu
      have h2 : IntKind.i64.wrap ((q.1.length : Int) - 1) = (q.1.length : Int) - 1 := wrap64 (by omega) (by omega)
      simp [hx, h, -getElem?_pos]
      refine callH_of [(1000, 1000), (1001, 1001), (1002, 1002)] [(2000, 24), (2001, 10024)] hC (by simp [listC]) (by simp [lentW, selsC, selsR, listR]) (by simp [lentW, selsC, listC, selsR, listR, doneW]) ?_
      simp [lentW, selsC, selsR, listR, doneW, h1, h2]
      have hal : List.take a.length (List.map (fun n => [iA n]) a) = List.map (fun n => [iA n]) a := List.take_of_length_le (by simp)
      refine ⟨⟨by omega, by omega⟩, i + 1, q.1, q.2, a ++ [(q.1.length : Int) - 1], ?_, ⟨by omega, ?_⟩, by omega⟩
      · simp [hal]
      · rw [hr', hq]; rfl
    · obtain rfl : i = t.kids.length := by omega
      rw [List.take_length] at hr
      have hfl := foldK_len t.kids [] [] []
      rw [← hr] at hfl
      simp only [List.length_nil] at hfl
      have hat := foldK_at t.kids ([], [], [])
      rw [← hr] at hat
      simp only [List.length_nil] at hat
      have hal : List.take a.length (List.map (fun n => [iA n]) a) = List.map (fun n => [iA n]) a := List.take_of_length_le (by simp)
      have hll : List.take l.length (List.map partCs l) = List.map partCs l := List.take_of_length_le (by simp)
      rcases hsel : t.sel with _ | v
      · have hw : writeT t [] [] = (l ++ [⟨t.kind, t.neg, t.lt, a⟩], s) := by rw [writeT_eq, hsel, ← hr]
        rw [hw]
        simp [hsel, treeCs, strsA, intsA, selA_none]
        refine ⟨⟨by omega, by omega⟩, ?_⟩
        simp [doneW, listR, selsR, partCs, intsA, strsA, hal, hll]
      · have hw : writeT t [] [] = (l ++ [⟨t.kind, t.neg, t.lt.at_ s.length, a⟩], (writeT v [] s).2 ++ [(writeT v [] s).1]) := by rw [writeT_eq, hsel, ← hr]
        have hsl : List.take s.length (List.map (fun y => [partsA y]) s) = List.map (fun y => [partsA y]) s := List.take_of_length_le (by simp)
        have hv := cnt_one v
        have hcv : cntT t = 1 + cntKs t.kids + cntT v := by rw [hcnt, hsel]
        have hV := IH v (sel_lt hsel) none (some s) (by simp; omega) (by simp; omega)
        have hlv := write_len v [] s
        simp only [List.length_nil] at hlv
        simp only [Option.getD_some, Option.getD_none] at hV
        obtain ⟨q, hq⟩ : ∃ q, q = writeT v [] s := ⟨_, rfl⟩
        rw [← hq] at hV hw hlv
        clear IH
        simp [hsel, treeCs, strsA, intsA, selA_some]
        refine ⟨fun h7 => ?_, fun h7 => ?_⟩
        all_goals
          refine callH_of [(1000, 1000), (1001, 1001)] [(2000, 75), (2001, 10075)] hV (by simp [listC]) (by simp [lentW, selsC, selsR, listR]) (by simp [lentW, selsC, listC, selsR, listR, doneW]) ?_
          simp [lentW, selsC, selsR, listR, doneW]
          have hql : List.take q.2.length (List.map (fun y => [partsA y]) q.2) = List.map (fun y => [partsA y]) q.2 := List.take_of_length_le (by simp)
          have hqf : List.take q.1.length (List.map partCs q.1) = List.map partCs q.1 := List.take_of_length_le (by simp)
          rw [hw]
          refine ⟨⟨by omega, by omega⟩, ⟨by omega, by omega⟩, ?_⟩
          simp only [hql, hqf, hal, hll]
          simp [partsA, partCs, LitD.at_, h7, intsA, strsA]
  case none.some s0 =>
    refine wF_loop [.slot 2 1002 63, .cell 1000 0 1001 22, .slot 7 7 3] [.keep 1000, .cell 1000 0 1001, .slot 2 1002, .slot 7 7] [0, 1, 2, 7, 15, 16, 17]
      (fun x : Nat × List PartD × List (List PartD) × List Int => St.asc [(0, .ref 1000 0), (1, treeA t), (2, .rw 1002 0 x.2.1.length), (7, .rw 7 0 x.2.2.2.length), (15, .sl (t.kids.map fun t => [treeA t])), (16, iA t.kids.length), (17, iA x.1)]
        [(1000, .box 104 [.rw 1001 0 x.2.2.1.length]), (1001, .row 22 (x.2.2.1.map fun y => [partsA y])), (1002, .row 63 (x.2.1.map partCs)), (7, .row 3 (x.2.2.2.map fun n => [iA n]))] [(1000, true), (1001, true), (1002, true), (7, true)] false)
      (fun x => x.1 ≤ t.kids.length ∧ x.2 = (t.kids.take x.1).foldl stepK ([], s0, [])) (fun x => t.kids.length - x.1) (0, [], s0, []) _ (by simp) (by simp) (by simp) ?_
    rintro ⟨i, l, s, a⟩ ⟨hi, hr⟩
    dsimp only at hi hr ⊢
    by_cases h : i < t.kids.length
    · have hx : t.kids[i]? = some t.kids[i] := List.getElem?_eq_getElem h
      have h1 : IntKind.i64.wrap ((i : Int) + 1) = (i : Int) + 1 := wrap64 (by omega) (by omega)
      have htk : t.kids.take (i + 1) = t.kids.take i ++ [t.kids[i]] := by rw [List.take_add_one, hx]; rfl
      have hct := cntKs_take t.kids i h
      have hfl := foldK_len (t.kids.take i) [] s0 []
      rw [← hr] at hfl
      dsimp only at hfl
      have hu := write_len t.kids[i] l s
      have hat := foldK_at (t.kids.take i) ([], s0, [])
      rw [← hr, List.length_take] at hat
      simp only [List.length_nil] at hat
      have hC := IH t.kids[i] (by omega) (some l) (some s) (by simp at hfl ⊢; omega) (by simp at hfl ⊢; omega)
      have hr' : (t.kids.take (i + 1)).foldl stepK ([], s0, []) = stepK (l, s, a) t.kids[i] := by rw [htk, List.foldl_append, ← hr]; rfl
      obtain ⟨u, eu⟩ : ∃ u, u = t.kids[i] := ⟨_, rfl⟩
      simp only [Option.getD_some] at hC
      rw [← eu] at hC hx hr' hu hct
      obtain ⟨q, hq⟩ : ∃ q, q = writeT u l s := ⟨_, rfl⟩
      rw [← hq] at hC hu
      clear IH htk eu
      have h2 : IntKind.i64.wrap ((q.1.length : Int) - 1) = (q.1.length : Int) - 1 := wrap64 (by omega) (by omega)
      simp [hx, h, -getElem?_pos]
      refine callH_of [(1000, 1000), (1001, 1001), (1002, 1002)] [(2000, 24), (2001, 10024)] hC (by simp [listC]) (by simp [lentW, selsC, selsR, listR]) (by simp [lentW, selsC, listC, selsR, listR, doneW]) ?_
      simp [lentW, selsC, selsR, listR, doneW, h1, h2]
      have hal : List.take a.length (List.map (fun n => [iA n]) a) = List.map (fun n => [iA n]) a := List.take_of_length_le (by simp)
      refine ⟨⟨by omega, by omega⟩, i + 1, q.1, q.2, a ++ [(q.1.length : Int) - 1], ?_, ⟨by omega, ?_⟩, by omega⟩
      · simp [hal]
      · rw [hr', hq]; rfl
    · obtain rfl : i = t.kids.length := by omega
      rw [List.take_length] at hr
      have hfl := foldK_len t.kids [] s0 []
      rw [← hr] at hfl
      simp only [List.length_nil] at hfl
      have hat := foldK_at t.kids ([], s0, [])
      rw [← hr] at hat
      simp only [List.length_nil] at hat
      have hal : List.take a.length (List.map (fun n => [iA n]) a) = List.map (fun n => [iA n]) a := List.take_of_length_le (by simp)
      have hll : List.take l.length (List.map partCs l) = List.map partCs l := List.take_of_length_le (by simp)
      rcases hsel : t.sel with _ | v
      · have hw : writeT t [] s0 = (l ++ [⟨t.kind, t.neg, t.lt, a⟩], s) := by rw [writeT_eq, hsel, ← hr]
        rw [hw]
        simp [hsel, treeCs, strsA, intsA, selA_none]
        refine ⟨⟨by omega, by omega⟩, ?_⟩
        simp [doneW, listR, selsR, partCs, intsA, strsA, hal, hll]
      · have hw : writeT t [] s0 = (l ++ [⟨t.kind, t.neg, t.lt.at_ s.length, a⟩], (writeT v [] s).2 ++ [(writeT v [] s).1]) := by rw [writeT_eq, hsel, ← hr]
        have hsl : List.take s.length (List.map (fun y => [partsA y]) s) = List.map (fun y => [partsA y]) s := List.take_of_length_le (by simp)
        have hv := cnt_one v
        have hcv : cntT t = 1 + cntKs t.kids + cntT v := by rw [hcnt, hsel]
        have hV := IH v (sel_lt hsel) none (some s) (by simp; omega) (by simp; omega)
        have hlv := write_len v [] s
        simp only [List.length_nil] at hlv
        simp only [Option.getD_some, Option.getD_none] at hV
        obtain ⟨q, hq⟩ : ∃ q, q = writeT v [] s := ⟨_, rfl⟩
        rw [← hq] at hV hw hlv
        clear IH
        simp [hsel, treeCs, strsA, intsA, selA_some]
        refine ⟨fun h7 => ?_, fun h7 => ?_⟩
        all_goals
          refine callH_of [(1000, 1000), (1001, 1001)] [(2000, 75), (2001, 10075)] hV (by simp [listC]) (by simp [lentW, selsC, selsR, listR]) (by simp [lentW, selsC, listC, selsR, listR, doneW]) ?_
          simp [lentW, selsC, selsR, listR, doneW]
          have hql : List.take q.2.length (List.map (fun y => [partsA y]) q.2) = List.map (fun y => [partsA y]) q.2 := List.take_of_length_le (by simp)
          have hqf : List.take q.1.length (List.map partCs q.1) = List.map partCs q.1 := List.take_of_length_le (by simp)
          rw [hw]
          refine ⟨⟨by omega, by omega⟩, ⟨by omega, by omega⟩, ?_⟩
          simp only [hql, hqf, hal, hll]
          simp [partsA, partCs, LitD.at_, h7, intsA, strsA]
  case some.none l0 =>
    refine wF_loop [.slot 2 1002 63, .cell 1000 0 1001 22, .slot 7 7 3] [.keep 1000, .cell 1000 0 1001, .slot 2 1002, .slot 7 7] [0, 1, 2, 7, 15, 16, 17]
      (fun x : Nat × List PartD × List (List PartD) × List Int => St.asc [(0, .ref 1000 0), (1, treeA t), (2, .rw 1002 0 x.2.1.length), (7, .rw 7 0 x.2.2.2.length), (15, .sl (t.kids.map fun t => [treeA t])), (16, iA t.kids.length), (17, iA x.1)]
        [(1000, .box 104 [.rw 1001 0 x.2.2.1.length]), (1001, .row 22 (x.2.2.1.map fun y => [partsA y])), (1002, .row 63 (x.2.1.map partCs)), (7, .row 3 (x.2.2.2.map fun n => [iA n]))] [(1000, true), (1001, true), (1002, true), (7, true)] false)
      (fun x => x.1 ≤ t.kids.length ∧ x.2 = (t.kids.take x.1).foldl stepK (l0, [], [])) (fun x => t.kids.length - x.1) (0, l0, [], []) _ (by simp) (by simp) (by simp) ?_
    rintro ⟨i, l, s, a⟩ ⟨hi, hr⟩
    dsimp only at hi hr ⊢
    by_cases h : i < t.kids.length
    · have hx : t.kids[i]? = some t.kids[i] := List.getElem?_eq_getElem h
      have h1 : IntKind.i64.wrap ((i : Int) + 1) = (i : Int) + 1 := wrap64 (by omega) (by omega)
      have htk : t.kids.take (i + 1) = t.kids.take i ++ [t.kids[i]] := by rw [List.take_add_one, hx]; rfl
      have hct := cntKs_take t.kids i h
      have hfl := foldK_len (t.kids.take i) l0 [] []
      rw [← hr] at hfl
      dsimp only at hfl
      have hu := write_len t.kids[i] l s
      have hat := foldK_at (t.kids.take i) (l0, [], [])
      rw [← hr, List.length_take] at hat
      simp only [List.length_nil] at hat
      have hC := IH t.kids[i] (by omega) (some l) (some s) (by simp at hfl ⊢; omega) (by simp at hfl ⊢; omega)
      have hr' : (t.kids.take (i + 1)).foldl stepK (l0, [], []) = stepK (l, s, a) t.kids[i] := by rw [htk, List.foldl_append, ← hr]; rfl
      obtain ⟨u, eu⟩ : ∃ u, u = t.kids[i] := ⟨_, rfl⟩
      simp only [Option.getD_some] at hC
      rw [← eu] at hC hx hr' hu hct
      obtain ⟨q, hq⟩ : ∃ q, q = writeT u l s := ⟨_, rfl⟩
      rw [← hq] at hC hu
      clear IH htk eu
      have h2 : IntKind.i64.wrap ((q.1.length : Int) - 1) = (q.1.length : Int) - 1 := wrap64 (by omega) (by omega)
      simp [hx, h, -getElem?_pos]
      refine callH_of [(1000, 1000), (1001, 1001), (1002, 1002)] [(2000, 24), (2001, 10024)] hC (by simp [listC]) (by simp [lentW, selsC, selsR, listR]) (by simp [lentW, selsC, listC, selsR, listR, doneW]) ?_
      simp [lentW, selsC, selsR, listR, doneW, h1, h2]
      have hal : List.take a.length (List.map (fun n => [iA n]) a) = List.map (fun n => [iA n]) a := List.take_of_length_le (by simp)
      refine ⟨⟨by omega, by omega⟩, i + 1, q.1, q.2, a ++ [(q.1.length : Int) - 1], ?_, ⟨by omega, ?_⟩, by omega⟩
      · simp [hal]
      · rw [hr', hq]; rfl
    · obtain rfl : i = t.kids.length := by omega
      rw [List.take_length] at hr
      have hfl := foldK_len t.kids l0 [] []
      rw [← hr] at hfl
      simp only [List.length_nil] at hfl
      have hat := foldK_at t.kids (l0, [], [])
      rw [← hr] at hat
      simp only [List.length_nil] at hat
      have hal : List.take a.length (List.map (fun n => [iA n]) a) = List.map (fun n => [iA n]) a := List.take_of_length_le (by simp)
      have hll : List.take l.length (List.map partCs l) = List.map partCs l := List.take_of_length_le (by simp)
      rcases hsel : t.sel with _ | v
      · have hw : writeT t l0 [] = (l ++ [⟨t.kind, t.neg, t.lt, a⟩], s) := by rw [writeT_eq, hsel, ← hr]
        rw [hw]
        simp [hsel, treeCs, strsA, intsA, selA_none]
        refine ⟨⟨by omega, by omega⟩, ?_⟩
        simp [doneW, listR, selsR, partCs, intsA, strsA, hal, hll]
      · have hw : writeT t l0 [] = (l ++ [⟨t.kind, t.neg, t.lt.at_ s.length, a⟩], (writeT v [] s).2 ++ [(writeT v [] s).1]) := by rw [writeT_eq, hsel, ← hr]
        have hsl : List.take s.length (List.map (fun y => [partsA y]) s) = List.map (fun y => [partsA y]) s := List.take_of_length_le (by simp)
        have hv := cnt_one v
        have hcv : cntT t = 1 + cntKs t.kids + cntT v := by rw [hcnt, hsel]
        have hV := IH v (sel_lt hsel) none (some s) (by simp; omega) (by simp; omega)
        have hlv := write_len v [] s
        simp only [List.length_nil] at hlv
        simp only [Option.getD_some, Option.getD_none] at hV
        obtain ⟨q, hq⟩ : ∃ q, q = writeT v [] s := ⟨_, rfl⟩
        rw [← hq] at hV hw hlv
        clear IH
        simp [hsel, treeCs, strsA, intsA, selA_some]
        refine ⟨fun h7 => ?_, fun h7 => ?_⟩
        all_goals
          refine callH_of [(1000, 1000), (1001, 1001)] [(2000, 75), (2001, 10075)] hV (by simp [listC]) (by simp [lentW, selsC, selsR, listR]) (by simp [lentW, selsC, listC, selsR, listR, doneW]) ?_
          simp [lentW, selsC, selsR, listR, doneW]
          have hql : List.take q.2.length (List.map (fun y => [partsA y]) q.2) = List.map (fun y => [partsA y]) q.2 := List.take_of_length_le (by simp)
          have hqf : List.take q.1.length (List.map partCs q.1) = List.map partCs q.1 := List.take_of_length_le (by simp)
          rw [hw]
          refine ⟨⟨by omega, by omega⟩, ⟨by omega, by omega⟩, ?_⟩
          simp only [hql, hqf, hal, hll]
          simp [partsA, partCs, LitD.at_, h7, intsA, strsA]
  case some.some l0 s0 =>
    refine wF_loop [.slot 2 1002 63, .cell 1000 0 1001 22, .slot 7 7 3] [.keep 1000, .cell 1000 0 1001, .slot 2 1002, .slot 7 7] [0, 1, 2, 7, 15, 16, 17]
      (fun x : Nat × List PartD × List (List PartD) × List Int => St.asc [(0, .ref 1000 0), (1, treeA t), (2, .rw 1002 0 x.2.1.length), (7, .rw 7 0 x.2.2.2.length), (15, .sl (t.kids.map fun t => [treeA t])), (16, iA t.kids.length), (17, iA x.1)]
        [(1000, .box 104 [.rw 1001 0 x.2.2.1.length]), (1001, .row 22 (x.2.2.1.map fun y => [partsA y])), (1002, .row 63 (x.2.1.map partCs)), (7, .row 3 (x.2.2.2.map fun n => [iA n]))] [(1000, true), (1001, true), (1002, true), (7, true)] false)
      (fun x => x.1 ≤ t.kids.length ∧ x.2 = (t.kids.take x.1).foldl stepK (l0, s0, [])) (fun x => t.kids.length - x.1) (0, l0, s0, []) _ (by simp) (by simp) (by simp) ?_
    rintro ⟨i, l, s, a⟩ ⟨hi, hr⟩
    dsimp only at hi hr ⊢
    by_cases h : i < t.kids.length
    · have hx : t.kids[i]? = some t.kids[i] := List.getElem?_eq_getElem h
      have h1 : IntKind.i64.wrap ((i : Int) + 1) = (i : Int) + 1 := wrap64 (by omega) (by omega)
      have htk : t.kids.take (i + 1) = t.kids.take i ++ [t.kids[i]] := by rw [List.take_add_one, hx]; rfl
      have hct := cntKs_take t.kids i h
      have hfl := foldK_len (t.kids.take i) l0 s0 []
      rw [← hr] at hfl
      dsimp only at hfl
      have hu := write_len t.kids[i] l s
      have hat := foldK_at (t.kids.take i) (l0, s0, [])
      rw [← hr, List.length_take] at hat
      simp only [List.length_nil] at hat
      have hC := IH t.kids[i] (by omega) (some l) (some s) (by simp at hfl ⊢; omega) (by simp at hfl ⊢; omega)
      have hr' : (t.kids.take (i + 1)).foldl stepK (l0, s0, []) = stepK (l, s, a) t.kids[i] := by rw [htk, List.foldl_append, ← hr]; rfl
      obtain ⟨u, eu⟩ : ∃ u, u = t.kids[i] := ⟨_, rfl⟩
      simp only [Option.getD_some] at hC
      rw [← eu] at hC hx hr' hu hct
      obtain ⟨q, hq⟩ : ∃ q, q = writeT u l s := ⟨_, rfl⟩
      rw [← hq] at hC hu
      clear IH htk eu
      have h2 : IntKind.i64.wrap ((q.1.length : Int) - 1) = (q.1.length : Int) - 1 := wrap64 (by omega) (by omega)
      simp [hx, h, -getElem?_pos]
      refine callH_of [(1000, 1000), (1001, 1001), (1002, 1002)] [(2000, 24), (2001, 10024)] hC (by simp [listC]) (by simp [lentW, selsC, selsR, listR]) (by simp [lentW, selsC, listC, selsR, listR, doneW]) ?_
      simp [lentW, selsC, selsR, listR, doneW, h1, h2]
      have hal : List.take a.length (List.map (fun n => [iA n]) a) = List.map (fun n => [iA n]) a := List.take_of_length_le (by simp)
      refine ⟨⟨by omega, by omega⟩, i + 1, q.1, q.2, a ++ [(q.1.length : Int) - 1], ?_, ⟨by omega, ?_⟩, by omega⟩
      · simp [hal]
      · rw [hr', hq]; rfl
    · obtain rfl : i = t.kids.length := by omega
      rw [List.take_length] at hr
      have hfl := foldK_len t.kids l0 s0 []
      rw [← hr] at hfl
      simp only [List.length_nil] at hfl
      have hat := foldK_at t.kids (l0, s0, [])
      rw [← hr] at hat
      simp only [List.length_nil] at hat
      have hal : List.take a.length (List.map (fun n => [iA n]) a) = List.map (fun n => [iA n]) a := List.take_of_length_le (by simp)
      have hll : List.take l.length (List.map partCs l) = List.map partCs l := List.take_of_length_le (by simp)
      rcases hsel : t.sel with _ | v
      · have hw : writeT t l0 s0 = (l ++ [⟨t.kind, t.neg, t.lt, a⟩], s) := by rw [writeT_eq, hsel, ← hr]
        rw [hw]
        simp [hsel, treeCs, strsA, intsA, selA_none]
        refine ⟨⟨by omega, by omega⟩, ?_⟩
        simp [doneW, listR, selsR, partCs, intsA, strsA, hal, hll]
      · have hw : writeT t l0 s0 = (l ++ [⟨t.kind, t.neg, t.lt.at_ s.length, a⟩], (writeT v [] s).2 ++ [(writeT v [] s).1]) := by rw [writeT_eq, hsel, ← hr]
        have hsl : List.take s.length (List.map (fun y => [partsA y]) s) = List.map (fun y => [partsA y]) s := List.take_of_length_le (by simp)
        have hv := cnt_one v
        have hcv : cntT t = 1 + cntKs t.kids + cntT v := by rw [hcnt, hsel]
        have hV := IH v (sel_lt hsel) none (some s) (by simp; omega) (by simp; omega)
        have hlv := write_len v [] s
        simp only [List.length_nil] at hlv
        simp only [Option.getD_some, Option.getD_none] at hV
        obtain ⟨q, hq⟩ : ∃ q, q = writeT v [] s := ⟨_, rfl⟩
        rw [← hq] at hV hw hlv
        clear IH
        simp [hsel, treeCs, strsA, intsA, selA_some]
        refine ⟨fun h7 => ?_, fun h7 => ?_⟩
        all_goals
          refine callH_of [(1000, 1000), (1001, 1001)] [(2000, 75), (2001, 10075)] hV (by simp [listC]) (by simp [lentW, selsC, selsR, listR]) (by simp [lentW, selsC, listC, selsR, listR, doneW]) ?_
          simp [lentW, selsC, selsR, listR, doneW]
          have hql : List.take q.2.length (List.map (fun y => [partsA y]) q.2) = List.map (fun y => [partsA y]) q.2 := List.take_of_length_le (by simp)
          have hqf : List.take q.1.length (List.map partCs q.1) = List.map partCs q.1 := List.take_of_length_le (by simp)
          rw [hw]
          refine ⟨⟨by omega, by omega⟩, ⟨by omega, by omega⟩, ?_⟩
          simp only [hql, hqf, hal, hll]
          simp [partsA, partCs, LitD.at_, h7, intsA, strsA]
theorem write_all (t : Tr) : WriteC t := by
  generalize hn : cntT t = n
  induction n using Nat.strongRecOn generalizing t with
  | ind n ih => exact write_aux t fun u hu => ih (cntT u) (by omega) u rfl
end Go.Proofs.YtldnkeackphilaaGreatDoor.X
/- norm.Plan by the linear calculus, where layers 13 and 14 take the tree. -/
namespace Go.Proofs.YtldnkeackphilaaGreatDoor.X
open Go.RowKit

set_option maxRecDepth 8000
set_option maxHeartbeats 1000000 in
theorem plan_ok (ps : List Part) (scope : Int) (hsc : R64 scope) (hb : PB ps) (hv : validF ps = none) (ts : List (Int × Int)) (hts : checkF ps scope = .inr ts) (T : Tr) (hT : Has Tryz.prog 38 [mkA ps, iA ((ps.length : Int) - 1), iA 0] (treeA T) noTok) (hcnt : cntT T ≤ 100000) (q : List PartD × List (List PartD)) (hq : q = writeT T [] []) :
    Has Tryz.prog 13 [.agg [psA ps], iA scope] (.tup [.agg [partsA q.1, selsA q.2], iA 0]) noTok := by
  have hW := write_all T none none (by simpa using hcnt) (by simpa using hcnt)
  simp only [Option.getD_none] at hW
  rw [← hq] at hW
  have hl : List.take q.1.length (List.map partCs q.1) = List.map partCs q.1 := List.take_of_length_le (by simp)
  have hs : List.take q.2.length (List.map (fun y => [partsA y]) q.2) = List.map (fun y => [partsA y]) q.2 := List.take_of_length_le (by simp)
  have hlen := hb.len
  have hw : IntKind.i64.wrap ((ps.length : Int) - 1) = (ps.length : Int) - 1 := wrap64 (by omega) (by omega)
  refine fnX mixed ⟨[0, 1, 2, 4, 5, 6, 8, 9, 10, 11, 12, 16, 27], [2, 4, 34, 42, 45, 10045], [], [(11, [45, 10045])], []⟩ Tryz.func13 rfl rfl rfl (by kernel_rfl) rfl ?_
  simp [psA]
  refine callP_of (valid_ok ps hb hv) (by simp) (by simp) ?_
  simp
  refine callP_of (check_ok ps scope hsc hb ts hts) (by simp) (by simp) ?_
  simp [hw]
  refine callP_of hT (by simp) (by simp) ?_
  simp
  refine callH_of [(1000, 42)] [(2000, 45), (2001, 10045)] hW (by simp [listC]) (by simp [lentW, selsC, selsR, listR]) (by simp [lentW, selsC, listC, selsR, listR, doneW]) ?_
  simp [lentW, selsC, selsR, listR, doneW]
  simp only [hl, hs]
  simp [partsA, selsA]
end Go.Proofs.YtldnkeackphilaaGreatDoor.X
