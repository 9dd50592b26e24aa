/- A tree written down, of any form: its measure, in plain Lean. -/
import Derived.Test.YtldnkeackphilaaGreatDoorNr17
import Derived.Test.YtldnkeackphilaaGreatDoorNr20
import Derived.Test.YtldnkeackphilaaGreatDoorNr21
import Derived.Test.YtldnkeackphilaaGreatDoorNr19
import Derived.Test.YtldnkeackphilaaGreatDoorNr18
import Derived.Test.YtldnkeackphilaaGreatDoorNr11
set_option linter.unusedSimpArgs false
set_option linter.unusedVariables false
namespace Go.Proofs.YtldnkeackphilaaGreatDoor.X

theorem wtL_snoc (a : List PartD) (p : PartD) : wtL (a ++ [p]) = wtL a + (1 + p.lit.texts.length + p.lit.nums.length) := by simp [wtL, partWt]
theorem wtP_snoc (a : List (List PartD)) (l : List PartD) : wtP (a ++ [l]) = wtP a + wtL l := by simp [wtP]
theorem at_sets (l : LitD) (n : Int) : (l.at_ n).texts = l.texts ∧ (l.at_ n).nums = l.nums := by unfold LitD.at_; split <;> exact ⟨rfl, rfl⟩
mutual
theorem write_wt : ∀ (t : Tr) (list : List PartD) (sels : List (List PartD)), wtL (writeT t list sels).1 + wtP (writeT t list sels).2 = wtL list + wtP sels + wtT t
  | .mk kind neg lit kids none, list, sels => by
    have := writeKs_wt kids list sels []
    simp only [writeT, wtT_mk, wtL_snoc, wtO]
    omega
  | .mk kind neg lit kids (some t), list, sels => by
    have h1 := writeKs_wt kids list sels []
    have h2 := write_wt t [] (writeKs kids list sels []).2.1
    obtain ⟨e1, e2⟩ := at_sets lit ((writeKs kids list sels []).2.1.length : Nat)
    have e3 : wtL [] = 0 := rfl
    simp only [writeT, wtT_mk, wtL_snoc, wtP_snoc, wtO, e1, e2]
    omega
theorem writeKs_wt : ∀ (l : List Tr) (list : List PartD) (sels : List (List PartD)) (at_ : List Int), wtL (writeKs l list sels at_).1 + wtP (writeKs l list sels at_).2.1 = wtL list + wtP sels + wtKs l
  | [], _, _, _ => by simp [writeKs, wtKs]
  | t :: r, list, sels, at_ => by
    have h1 := write_wt t list sels
    have h2 := writeKs_wt r (writeT t list sels).1 (writeT t list sels).2 (at_ ++ [((writeT t list sels).1.length : Int) - 1])
    simp only [writeKs, wtKs]
    omega
end
theorem writeKs_at : ∀ (l : List Tr) (list : List PartD) (sels : List (List PartD)) (at_ : List Int), (writeKs l list sels at_).2.2.length = at_.length + l.length
  | [], _, _, _ => by simp [writeKs]
  | t :: r, list, sels, at_ => by rw [writeKs]; simp only [writeKs_at r, List.length_append, List.length_cons, List.length_nil]; omega
theorem ks_len : ∀ l : List Tr, l.length ≤ wtKs l
  | [] => by simp [wtKs]
  | t :: r => by have := ks_len r; have := wt_pos t; simp only [wtKs, List.length_cons]; omega
def KL (B : Nat) (list : List PartD) (sels : List (List PartD)) : Prop := (∀ p ∈ list, p.kids.length ≤ B) ∧ ∀ l ∈ sels, ∀ p ∈ l, p.kids.length ≤ B
theorem KL.part {B : Nat} {list : List PartD} {sels : List (List PartD)} (h : KL B list sels) {p : PartD} (hp : p.kids.length ≤ B) : KL B (list ++ [p]) sels :=
  ⟨fun q hq => (List.mem_append.1 hq).elim (h.1 q) fun e => by rw [List.mem_singleton.1 e]; exact hp, h.2⟩
mutual
theorem write_kl (B : Nat) : ∀ (t : Tr) (list : List PartD) (sels : List (List PartD)), wtT t ≤ B → KL B list sels → KL B (writeT t list sels).1 (writeT t list sels).2
  | .mk kind neg lit kids none, list, sels, hB, h => by
    rw [wtT_mk] at hB
    have h1 := writeKs_kl B kids list sels [] (by omega) h
    have h2 := writeKs_at kids list sels []
    have h3 := ks_len kids
    simp only [writeT]
    exact h1.part (by simp only [h2, List.length_nil]; omega)
  | .mk kind neg lit kids (some t), list, sels, hB, h => by
    rw [wtT_mk] at hB
    simp only [wtO] at hB
    have h1 := writeKs_kl B kids list sels [] (by omega) h
    have h2 := writeKs_at kids list sels []
    have h3 := ks_len kids
    have h4 := write_kl B t [] (writeKs kids list sels []).2.1 (by omega) ⟨by simp, h1.2⟩
    simp only [writeT]
    refine KL.part ⟨h1.1, fun l hl => ?_⟩ (by simp only [h2, List.length_nil]; omega)
    rcases List.mem_append.1 hl with hl | hl
    · exact h4.2 l hl
    · rw [List.mem_singleton.1 hl]; exact h4.1
theorem writeKs_kl (B : Nat) : ∀ (l : List Tr) (list : List PartD) (sels : List (List PartD)) (at_ : List Int), wtKs l ≤ B → KL B list sels → KL B (writeKs l list sels at_).1 (writeKs l list sels at_).2.1
  | [], _, _, _, _, h => by simpa [writeKs] using h
  | t :: r, list, sels, at_, hB, h => by
    rw [wtKs] at hB
    rw [writeKs]
    exact writeKs_kl B r _ _ _ (by omega) (write_kl B t list sels (by omega) h)
end
theorem sum_mem {l : List PartD} : ∀ {m : List (List PartD)}, l ∈ m → wtL l ≤ wtP m
  | [], h => by cases h
  | x :: r, h => by
    have e : wtP (x :: r) = wtL x + wtP r := by simp [wtP]
    rcases List.mem_cons.1 h with rfl | h
    · omega
    · have := sum_mem h; omega
theorem plan_fits {ps : List Part} (hv : validF ps = none) : wtL (planF ps).1 + wtP (planF ps).2 ≤ 1000 ∧ FitsP ⟨(planF ps).1, (planF ps).2⟩ := by
  have hw := wf_of_shape (shape_of_valid hv)
  have hle := hw.le
  have h1 := wt_whole hv 0
  have h2 := write_wt (condF ps ps.length ((ps.length - 1 : Nat) : Int) 0) [] []
  have h3 := write_kl 1000 (condF ps ps.length ((ps.length - 1 : Nat) : Int) 0) [] [] (by omega) ⟨by simp, by simp⟩
  have h4 := (write_len (condF ps ps.length ((ps.length - 1 : Nat) : Int) 0) [] []).2
  have h5 := cnt_wt (condF ps ps.length ((ps.length - 1 : Nat) : Int) 0)
  change wtL (planF ps).1 + wtP (planF ps).2 = _ at h2
  change KL 1000 (planF ps).1 (planF ps).2 at h3
  change (planF ps).2.length ≤ _ at h4
  generalize planF ps = q at *
  obtain ⟨main, sels⟩ := q
  simp only at *
  have e1 : wtL [] = 0 := rfl
  have e2 : wtP [] = 0 := rfl
  have fits : ∀ l : List PartD, wtL l ≤ 1000 → (∀ p ∈ l, p.kids.length ≤ 1000) → FitsL l := fun l hl hk => by
    have hlen := wtL_sum l
    refine ⟨by omega, fun p hp => ?_⟩
    have h1 : partWt p ≤ wtL l := by
      obtain ⟨i, hi⟩ := List.getElem?_of_mem hp
      obtain ⟨hil, rfl⟩ := List.getElem?_eq_some_iff.1 hi
      have h3 : wtL l = wtL (l.take i) + (partWt l[i] + wtL (l.drop (i + 1))) := by
        conv => lhs; rw [← List.take_append_drop i l, List.drop_eq_getElem_cons hil]
        simp only [wtL, List.map_append, List.map_cons, List.sum_append, List.sum_cons]
      omega
    have h2 := hk p hp
    simp only [partWt] at h1
    exact ⟨⟨by omega, by omega⟩, by omega⟩
  refine ⟨by omega, fits main (by omega) h3.1, ?_, fun l hl => ?_⟩
  · show sels.length ≤ 35184372088064
    simp only [List.length_nil] at h4
    omega
  · have : wtL l ≤ wtP sels := sum_mem hl
    exact fits l (by omega) (h3.2 l hl)
end Go.Proofs.YtldnkeackphilaaGreatDoor.X
namespace Go.Proofs.YtldnkeackphilaaGreatDoor
open X

theorem freeF_app (p : Bool) (m : Int) : ∀ (a b : List PartD) (i : Nat) (free : List Int), freeF p m (a ++ b) i free = (freeF p m a i free).bind fun f => freeF p m b (i + a.length) f
  | [], b, i, free => by simp [freeF]
  | x :: a, b, i, free => by
    rw [List.cons_append, freeF, freeF]
    split
    · rw [freeF_app p m a b, List.length_cons, show i + 1 + a.length = i + (a.length + 1) from by omega]
    · rfl
structure WV (b : Bool) (T : Tr) (list : List PartD) (sels : List (List PartD)) (new : List PartD) (ns : List (List PartD)) : Prop where
  eq : writeT T list sels = (list ++ new, sels ++ ns)
  ne : new ≠ []
  fr : ∀ m : Int, (b = true → ((sels.length + ns.length : Nat) : Int) ≤ m) → ∀ free, freeF (!b) m new list.length free = some (free ++ [((list.length + new.length - 1 : Nat) : Int)])
  no : b = false → ns = []
  ok : ∀ l ∈ ns, listF l true 0 = true
structure WVK (b : Bool) (l : List Tr) (list : List PartD) (sels : List (List PartD)) (at0 : List Int) (new : List PartD) (ns : List (List PartD)) (pl : List Int) : Prop where
  eq : writeKs l list sels at0 = (list ++ new, sels ++ ns, at0 ++ pl)
  fr : ∀ m : Int, (b = true → ((sels.length + ns.length : Nat) : Int) ≤ m) → ∀ free, freeF (!b) m new list.length free = some (free ++ pl)
  len : pl.length = l.length
  no : b = false → ns = []
  ok : ∀ l ∈ ns, listF l true 0 = true
theorem kids_ok (b : Bool) : ∀ (l : List Tr), (∀ t ∈ l, ∀ list sels, ∃ new ns, WV b t list sels new ns) → ∀ list sels at0, ∃ new ns pl, WVK b l list sels at0 new ns pl
  | [], _, list, sels, at0 => ⟨[], [], [], by simp [writeKs], by simp [freeF], by simp, by simp, by simp⟩
  | t :: r, h, list, sels, at0 => by
    obtain ⟨n1, s1, h1⟩ := h t (by simp) list sels
    obtain ⟨n2, s2, a2, h2⟩ := kids_ok b r (fun u hu => h u (by simp [hu])) (list ++ n1) (sels ++ s1) (at0 ++ [((list ++ n1).length : Int) - 1])
    have hn1 : 0 < n1.length := List.length_pos_iff.2 h1.ne
    refine ⟨n1 ++ n2, s1 ++ s2, ((list.length + n1.length - 1 : Nat) : Int) :: a2, ?_, fun m hm free => ?_, ?_, ?_, ?_⟩
    · rw [writeKs]
      have e := h2.eq
      simp only [h1.eq]
      rw [e]
      have : ((list ++ n1).length : Int) - 1 = ((list.length + n1.length - 1 : Nat) : Int) := by rw [List.length_append]; omega
      rw [this]
      simp only [List.append_assoc, List.cons_append, List.nil_append]
    · have f2 := h2.fr m (fun hb => by have := hm hb; simp only [List.length_append] at this ⊢; omega)
      rw [List.length_append] at f2
      rw [freeF_app, h1.fr m (fun hb => by have := hm hb; simp only [List.length_append] at this; omega)]
      simp only [Option.bind_some, f2, List.append_assoc, List.cons_append, List.nil_append]
    · simp [h2.len]
    · exact fun hb => by rw [h1.no hb, h2.no hb]; rfl
    · exact fun l hl => (List.mem_append.1 hl).elim (h1.ok l) (h2.ok l)
theorem step_leaf {p : Bool} {m : Int} {free : List Int} {k : Int} (h : k = 1 ∨ k = 2) : stepOk p m free ⟨k, false, .zero, []⟩ = true := by
  have hz : zeroF .zero = true := by simp [zeroF, LitD.zero, eqT_zero, restF, noText_l]
  rcases h with rfl | rfl <;> simp [stepOk, hz]
theorem step_lit {p : Bool} {m : Int} {free : List Int} {neg : Bool} {l : LitD} (h : litF l p m = true) : stepOk p m free ⟨5, neg, l, []⟩ = true := by simp [stepOk, h]
theorem step_join {p : Bool} {m : Int} {free : List Int} {k : Int} (h : k = 3 ∨ k = 4) (pl : List Int) (h2 : 2 ≤ pl.length) : stepOk p m (free ++ pl) ⟨k, false, .zero, pl⟩ = true := by
  have hz : zeroF .zero = true := by simp [zeroF, LitD.zero, eqT_zero, restF, noText_l]
  have e : (free ++ pl).length - pl.length = free.length := by simp
  rcases h with rfl | rfl <;> simp [stepOk, hz, h2]
theorem free_one {p : Bool} {m : Int} {i : Nat} {free : List Int} {x : PartD} (h : stepOk p m free x = true) (hk : x.kids = []) : freeF p m [x] i free = some (free ++ [(i : Int)]) := by
  simp [freeF, h, stepF, hk]
theorem write_ok {b : Bool} {T : Tr} (h : GoodV b T) : ∀ list sels, ∃ new ns, WV b T list sels new ns := by
  induction h with
  | leaf b k hk =>
    intro list sels
    refine ⟨[⟨k, false, .zero, []⟩], [], by simp [Tr.leaf, writeT, writeKs], by simp, fun m _ free => ?_, fun _ => rfl, by simp⟩
    rw [free_one (step_leaf hk) rfl]
    rfl
  | lit b l s hl =>
    intro list sels
    refine ⟨[⟨5, s == 1, l, []⟩], [], by simp [Tr.lit, writeT, writeKs], by simp, fun m _ free => ?_, fun _ => rfl, by simp⟩
    rw [free_one (step_lit (hl m)) rfl]
    rfl
  | sel l s u hl hu ih =>
    intro list sels
    obtain ⟨n2, s2, h2⟩ := ih [] sels
    have hs2 := h2.no rfl
    subst hs2
    refine ⟨[⟨5, s == 1, l.at_ sels.length, []⟩], [n2], by simp [Tr.lit, writeT, writeKs, h2.eq], by simp, fun m hm free => ?_, by simp, ?_⟩
    · have := hm rfl
      simp only [List.length_cons, List.length_nil] at this
      have h3 := free_one (i := list.length) (step_lit (free := free) (neg := s == 1) (hl sels.length m (by omega) (by omega))) rfl
      rw [Bool.not_true, h3]
      rfl
    · intro l hl
      rw [List.mem_singleton.1 hl]
      have := h2.fr 0 (by simp) []
      simp only [Bool.not_false, List.length_nil] at this
      simp [listF, this]
  | join b k kids hk h2 hg ih =>
    intro list sels
    obtain ⟨n1, s1, pl, hK⟩ := kids_ok b kids ih list sels []
    refine ⟨n1 ++ [⟨k, false, .zero, pl⟩], s1, ?_, by simp, fun m hm free => ?_, hK.no, hK.ok⟩
    · rw [writeT]
      simp only [hK.eq, List.append_assoc, List.nil_append]
    · rw [freeF_app, hK.fr m hm free, Option.bind_some, freeF, step_join hk pl (by rw [hK.len]; exact h2), if_pos rfl, freeF]
      simp [stepF]
theorem plan_valid {ps : List Part} {scope : Int} {ts : List (Int × Int)} (h : checkF ps scope = .inr ts) : planOkF ⟨(planF ps).1, (planF ps).2⟩ = true ∧ (planF ps).1 ≠ [] := by
  have ht := typed_of h
  have hw := wf_of_shape (shape_of_valid ht.valid)
  have hpos := hw.pos
  have hle := hw.le
  have hp : ps[ps.length - 1]? = some ps[ps.length - 1] := List.getElem?_eq_getElem (by omega)
  have hl := hw.last
  rw [kindAt_nat ps _ _ hp] at hl
  have hsc := scope_root ht.valid scope
  have hg := okv_cond ht ps.length (ps.length - 1) _ 0 (by omega) hp (by simpa [isCondF] using hl) (by rw [hsc]; exact ht.sc)
  obtain ⟨new, ns, hG⟩ := write_ok hg [] []
  have e := hG.eq
  simp only [List.nil_append] at e
  have hsm := (plan_fits ht.valid).1
  unfold planF at hsm ⊢
  rw [e] at hsm ⊢
  have hb : selB ps scope (ps.length - 1) = decide (scope = 2) := by simp [selB, hsc]
  rw [hb] at hG
  refine ⟨?_, hG.ne⟩
  rw [plan_eq]
  simp only at hsm ⊢
  have h1000 : wtL new + wtP ns ≤ 1000 := hsm
  have hone : ∀ (m : Int), (scope = 2 → (ns.length : Int) ≤ m) → listF new (!decide (scope = 2)) m = true := fun m hm => by
    have := hG.fr m (fun hb => by simp only [decide_eq_true_eq] at hb; have := hm hb; simp; omega) []
    simp only [List.length_nil] at this
    simp [listF, this]
  rcases ht.sc with h2 | h2
  · have h3 := hone ns.length (fun _ => by omega)
    subst h2
    have h4 : (ns.all fun l => listF l true 0) = true := List.all_eq_true.2 hG.ok
    simp only [decide_true, Bool.not_true] at h3
    rw [h3, h4, decide_eq_true h1000]
    rfl
  · have h3 := hone 0 (fun h => by omega)
    have h4 := hG.no (by simp; omega)
    subst h2
    subst h4
    simp only [show decide ((3 : Int) = 2) = false from rfl, Bool.not_false] at h3
    rw [h3, decide_eq_true h1000]
    simp
end Go.Proofs.YtldnkeackphilaaGreatDoor
namespace Go.Proofs.YtldnkeackphilaaGreatDoor.X
open Go.RowKit

set_option maxRecDepth 8000
def nextF (l : LitD) (at_ : Int) : Bool × Bool := if l.kind = 7 then (true, l.sel == at_) else if l.term.kind = 6 then (true, l.term.sel == at_) else (false, true)
def standP (n : Nat) (p : PartD) : Bool := !decide ((p.kind = 1 ∨ p.kind = 2) ∧ n > 1) && !(p.neg && decide (p.kind ≠ 5)) && !decide (p.lit.kind = 2 ∧ p.lit.rel ≠ 4 ∧ p.lit.rel ≠ 6) && !decide (p.lit.kind = 3 ∧ p.lit.rel = 2)
end Go.Proofs.YtldnkeackphilaaGreatDoor.X
namespace Go.Proofs.YtldnkeackphilaaGreatDoor.X

def scanF : List PartD → Nat → Option Nat
  | [], n => some n
  | p :: r, n => if (nextF p.lit n).2 then scanF r (if (nextF p.lit n).1 then n + 1 else n) else none
theorem next_no (l : LitD) (n : Nat) (h : ¬(l.kind = 7 ∨ l.term.kind = 6)) : nextF l n = (false, true) := by
  unfold nextF
  rw [if_neg (fun e => h (.inl e)), if_neg (fun e => h (.inr e))]
end Go.Proofs.YtldnkeackphilaaGreatDoor.X
namespace Go.Proofs.YtldnkeackphilaaGreatDoor.X
open Go.RowKit

set_option maxRecDepth 8000
set_option maxHeartbeats 1000000 in
theorem nValid_aux (p : PlanD) (hp : FitsP p) (res : Bool) (hr : Hid (res = (decide (wtL p.main + wtP p.sels ≤ 1000) && ((listF p.main false p.sels.length && p.sels.all fun l => listF l true 0) || (decide (p.sels.length = 0) && listF p.main true 0))))) : Has Tryz.prog 12 [.agg (planCs p)] (bA res) noTok := by
  refine fnX mixed ⟨[0, 1, 2, 3, 5, 8, 18, 19, 20, 21], [1, 13, 27, 40], [], [], []⟩ Tryz.func12 rfl rfl rfl (by kernel_rfl) rfl ?_
  have hlen := hp.len
  simp [planCs, partsA, selsA]
  refine callP_of (measured_h p hp) (by simp) (by simp) ?_
  simp
  refine ⟨fun hb => ?_, fun hb => ?_⟩
  · rw [hr.out, decide_eq_false (by omega)]; rfl
  have h1 := nList_h ⟨p.sels.length, true⟩ p.main hp.main
  simp only [partsA, lookA] at h1
  refine callP_of h1 (by simp) (by simp) ?_
  simp
  refine wF_loop [] [.slot 1 1] [1, 3, 18, 19, 20] (fun i : Nat => St.asc [(1, .ref 1 0), (3, bA (listF p.main false p.sels.length && (p.sels.take i).all fun l => listF l true 0)), (18, .sl (p.sels.map fun x => [.sl (x.map partCs)])), (19, iA p.sels.length), (20, iA i)] [(1, .box 25 [.sl (p.main.map partCs), .sl (p.sels.map fun x => [.sl (x.map partCs)])])] [(1, true)] false)
    (fun i => i ≤ p.sels.length) (fun i => p.sels.length - i) 0 _ (by simp) (by simp) (by simp) ?_
  intro i hi
  by_cases h : i < p.sels.length
  · have hx : p.sels[i]? = some p.sels[i] := List.getElem?_eq_getElem h
    have htk : p.sels.take (i + 1) = p.sels.take i ++ [p.sels[i]] := by rw [List.take_add_one, hx]; rfl
    have hf := hp.each p.sels[i] (List.getElem_mem h)
    obtain ⟨x, ex⟩ : ∃ x, x = p.sels[i] := ⟨_, rfl⟩
    rw [← ex] at hx hf htk
    have h1 : IntKind.i64.wrap ((i : Int) + 1) = (i : Int) + 1 := wrap64 (by omega) (by omega)
    obtain ⟨b, eb⟩ : ∃ b, b = (listF p.main false p.sels.length && (p.sels.take i).all fun l => listF l true 0) := ⟨_, rfl⟩
    rw [← eb]
    have h2 := nList_h ⟨0, false⟩ x hf
    simp only [partsA, lookA] at h2
    cases b
    · simp [hx, h, h1, -getElem?_pos]
      refine ⟨i + 1, ?_, by omega, by omega⟩
      rw [htk, List.all_append, ← Bool.and_assoc, ← eb]
      simp
    · simp [hx, h, h1, -getElem?_pos]
      refine .inr ?_
      refine callP_of h2 (by simp) (by simp) ?_
      simp [h1]
      refine ⟨i + 1, ?_, by omega, by omega⟩
      rw [htk, List.all_append, ← Bool.and_assoc, ← eb]
      simp
  · have : i = p.sels.length := by omega
    subst this
    rw [List.take_length]
    have hL := nList_h ⟨0, false⟩ p.main hp.main
    simp only [partsA, lookA] at hL
    have hr2 := hr.out
    have hle : decide (wtL p.main + wtP p.sels ≤ 1000) = true := decide_eq_true (by omega)
    rw [hle, Bool.true_and] at hr2
    generalize hc : (listF p.main false p.sels.length && p.sels.all fun l => listF l true 0) = c at *
    clear hr
    cases c
    · by_cases hz : p.sels.length = 0
      · have hz2 : ((p.sels.length : Int) == 0) = true := by simp [hz]
        simp [hz2]
        refine .inr ?_
        refine callP_of hL (by simp) (by simp) ?_
        simp
        rw [hr2]
        simp [hz]
      · have hz2 : ((p.sels.length : Int) == 0) = false := by simpa using hz
        simp [hz2]
        rw [hr2]
        simp [hz]
    · by_cases hz : p.sels.length = 0
      · have hz2 : ((p.sels.length : Int) == 0) = true := by simp [hz]
        simp [hz2]
        rw [hr2]
        simp
      · have hz2 : ((p.sels.length : Int) == 0) = false := by simpa using hz
        simp [hz2]
        rw [hr2]
        simp
theorem nValid_h (p : PlanD) (hp : FitsP p) : Has Tryz.prog 12 [.agg (planCs p)] (bA (planOkF p)) noTok := nValid_aux p hp _ (Lib.hid (plan_eq p))
end Go.Proofs.YtldnkeackphilaaGreatDoor.X
namespace Go.Proofs.YtldnkeackphilaaGreatDoor.X
open Go.RowKit

def zoneT : ByteArray := ⟨#[122, 111, 110, 101]⟩
def aT : ByteArray := ⟨#[97]⟩
def ps0 : List Part := [⟨14, zoneT, 2, []⟩, ⟨11, aT, 0, []⟩, ⟨6, noText, 1, [0, 1]⟩, ⟨3, noText, 0, [2]⟩]
theorem ps0_valid : validF ps0 = none := by decide +kernel
theorem ps0_check : checkF ps0 2 = .inr [(2, 2), (2, 0), (1, 2), (1, 2)] := by
  have h : (checkF ps0 2).getRight? = some [(2, 2), (2, 0), (1, 2), (1, 2)] := by decide +kernel
  revert h
  generalize checkF ps0 2 = c
  cases c <;> simp
theorem ps0_wf : WF ps0 := wf_of_shape (by decide +kernel)
theorem ps0_mem {P : Part → Prop} (h : ∀ p ∈ ps0, P p) {i : Nat} {p : Part} (hp : ps0[i]? = some p) : P p := h p (List.mem_of_getElem? hp)
theorem ps0_tt : TT ps0 where
  wf := ps0_wf
  cnt := fun i p hp => ps0_mem (P := fun p => p.kids.length ≤ 1000) (by simp [ps0]) hp
  cmp := fun i p hp => ps0_mem (P := fun p => p.kind = 6 → sideK (partAt ps0 (p.kids.getD 0 0)).kind ∧ sideK (partAt ps0 (p.kids.getD 1 0)).kind) (by simp [ps0, partAt, sideK]) hp
  mem := fun i p hp => ps0_mem (P := fun p => p.kind = 7 → sideK (partAt ps0 (p.kids.getD 0 0)).kind ∧ ((partAt ps0 (p.kids.getD 1 0)).kind = 13 ∨ (partAt ps0 (p.kids.getD 1 0)).kind = 16 ∨ (partAt ps0 (p.kids.getD 1 0)).kind = 17)) (by simp [ps0]) hp
theorem ps0_pb : PB ps0 where
  len := by simp [ps0]
  part := by
    have h : ∀ p ∈ ps0, (decide (-9223372036854775808 ≤ p.kind) && decide (p.kind ≤ 9223372036854775807) && decide (-9223372036854775808 ≤ p.num) && decide (p.num ≤ 9223372036854775807) && decide (p.text.size ≤ 140737488351232) && decide (p.kids.length ≤ 35184372088064) && p.kids.all fun k => decide (-9223372036854775808 ≤ k) && decide (k ≤ 9223372036854775807)) = true := by decide +kernel
    intro p hp
    have := h p hp
    simp only [Bool.and_eq_true, decide_eq_true_eq, List.all_eq_true] at this
    obtain ⟨⟨⟨⟨⟨⟨h1, h2⟩, h3⟩, h4⟩, h5⟩, h6⟩, h7⟩ := this
    exact ⟨⟨h1, h2⟩, ⟨h3, h4⟩, h5, h6, fun k hk => ⟨(h7 k hk).1, (h7 k hk).2⟩⟩
theorem ps0_memC (n f : Nat) : MemC ps0 n f := fun i p a b s hp h7 => absurd h7 (ps0_mem (P := fun p => ¬ p.kind = 7) (by simp [ps0]) hp)
theorem ps0_cond : CondC ps0 4 := cond_all ps0 ps0_tt (fun n f _ _ => ps0_memC n f) 4
def main0 : List PartD := [⟨5, true, { LitD.zero with kind := 1, term := ⟨2, 2, zoneT, 0⟩, texts := [aT] }, []⟩]
theorem ps0_tree : condF ps0 4 3 0 = .lit { LitD.zero with kind := 1, term := ⟨2, 2, zoneT, 0⟩, texts := [aT] } 1 none := by
  simp [condF, condStep, ps0, partAt, comparedF, comparedX, opdF, opdOf, againstF, againstL]
theorem plan0 : Has Tryz.prog 13 [.agg [psA ps0], iA 2] (.tup [.agg [partsA main0, selsA []], iA 0]) noTok := by
  refine plan_ok ps0 2 ⟨by decide, by decide⟩ ps0_pb ps0_valid _ ps0_check (condF ps0 4 3 0) ?_ ?_ (main0, []) ?_
  · exact ps0_cond 3 4 0 ⟨3, noText, 0, [2]⟩ rfl (by simp [isCondF]) (by omega) (by omega) (by omega)
  · rw [ps0_tree]; simp [Tr.lit, cntT, cntKs]
  · rw [ps0_tree]; simp [Tr.lit, writeT, writeKs, main0]
end Go.Proofs.YtldnkeackphilaaGreatDoor.X
namespace Go.Proofs.YtldnkeackphilaaGreatDoor
open Go.RowKit

set_option maxRecDepth 8000

namespace X
theorem num_h (n : Int) : Has Tryz.prog 16 [iA n] (iA n) noTok := by
  refine fnX mixed ⟨[0, 2], [], [], [], []⟩ Tryz.func16 rfl rfl rfl (by kernel_rfl) rfl ?_
  simp
theorem label_h (key : ByteArray) : Has Tryz.prog 34 [sA key] (.agg [iA 14, sA key, iA 2, .sl []]) noTok := by
  refine fnX mixed ⟨[0, 2], [2], [], [], []⟩ Tryz.func34 rfl rfl rfl (by kernel_rfl) rfl ?_
  simp
end X
end Go.Proofs.YtldnkeackphilaaGreatDoor
namespace Go.Proofs.YtldnkeackphilaaGreatDoor.X
open Go.RowKit

def plan0D : PlanD := ⟨main0, []⟩
theorem fits0 : FitsP plan0D := by
  refine ⟨⟨by decide, fun p hp => ?_⟩, by decide, fun l hl => by cases hl⟩
  simp [plan0D, main0] at hp
  subst hp
  exact ⟨⟨by decide, by decide⟩, by decide⟩
set_option maxRecDepth 8000
theorem awake_h : Has Tryz.prog 10 [] (bA true) noTok := by
  refine fnX mixed ⟨[0, 1, 2, 3, 4, 48], [7, 9, 11, 1, 2, 4], [], [], []⟩ Tryz.func10 rfl rfl rfl (by kernel_rfl) rfl ?_
  have h1 := label_h zoneT
  have h2 := plan0
  have h3 := nValid_h plan0D fits0
  have e1 : (zoneT.toList == [122, 111, 110, 101]) = true := by decide +kernel
  have e2 : (aT.toList == [97]) = true := by decide +kernel
  have e3 : planOkF plan0D = true := by decide +kernel
  rw [e3] at h3
  simp only [psA, ps0, List.map_cons, List.map_nil, pCs, intsA, strsA, LitD.zero, TermD.zero, partsA, selsA, main0, partCs, planCs, plan0D] at h1 h2 h3
  simp
  refine callP_of h1 (by simp) (by simp) ?_
  simp
  refine ⟨rfl, rfl, callP_of h2 (by simp) (by simp) ?_⟩
  simp
  refine callP_of (num_h 0) (by simp) (by simp) ?_
  simp [e1, e2]
  refine .inr ?_
  refine callP_of h3 (by simp) (by simp) ?_
  simp
  exact ⟨eq_of_beq e1, eq_of_beq e2⟩
end Go.Proofs.YtldnkeackphilaaGreatDoor.X
namespace Go.Proofs.YtldnkeackphilaaGreatDoor.X
open Go.RowKit

def faultA (c pl : Int) : AV := .ifc 114 (.ptr [iA c, iA pl, sA noText, .imm .nilIface])
theorem as_h (c pl : Int) (a0 : AV) : Hs Tryz.prog 43 [faultA c pl, .ifc 116 (.ref 1000 0)] [(1000, .box 114 [a0])] (bA true) [1000] [(1000, .box 114 [.ptr [iA c, iA pl, sA noText, .imm .nilIface]])] := by
  refine ⟨fun vals w => enters_of Tryz.func43 rfl rfl vals w, fun G ν w vals hc hB hinj hno hl hv => ?_⟩
  obtain ⟨l⟩ := vals
  match l, hl with
  | [v0, v1], _ =>
    obtain ⟨u0, rfl, hu0⟩ := (hv 0 v0 _ rfl rfl).ifcI
    obtain ⟨u1, rfl, hu1⟩ := (hv 1 v1 _ rfl rfl).ifcI
    obtain ⟨g, o, rfl, hcell⟩ := hu0.ptrI
    obtain ⟨g1, cap, sz, hn, rfl⟩ := hu1.refI
    obtain ⟨g2, cap2, sz2, hn2, hG, vs, hh, hsz, hvs⟩ := hB _ (List.mem_singleton.2 rfl)
    rw [hn] at hn2
    cases hn2
    have hlt : g1 < w.heap.size := (Array.getElem?_eq_some_iff.1 hh).1
    obtain ⟨l⟩ := vs
    match l, hsz with
    | [old], _ =>
      refine (as_hit ⟨g, o, none⟩ ⟨g1, 0, none⟩ old w (glob_of hc).et (cell_of_row _ _ 0 _ _ _ hh) (by unfold World.frozen?; rw [hh]; simp)).mono ?_
      rintro e w' ⟨rfl, rfl⟩
      have hblk : ∀ k, k < w.heap.size → k ≠ g1 → (((((w.alloc (.cells #[.pointer (some ⟨g1, 0, none⟩)] 116)).alloc (.cells #[.pointer (some ⟨4, 116, none⟩), .pointer (some ⟨w.heap.size, 0, none⟩), .int .u64 150] 183)).alloc (.cells #[.pointer (some ⟨4, 116, none⟩), .pointer (some ⟨w.heap.size, 0, none⟩), .int .u64 150] 183)).alloc (.cells #[.pointer (some ⟨g, o, none⟩)] 114)).setCell ⟨g1, 0, none⟩ (.pointer (some ⟨g, o, none⟩))).heap[k]? = w.heap[k]? := fun k hk hne => by
        rw [Below.heap_setCell _ _ _ _ (by exact fun e => hne e)]
        rw [Below.heap_alloc _ _ _ (by simp; omega), Below.heap_alloc _ _ _ (by simp; omega), Below.heap_alloc _ _ _ (by simp; omega), Below.heap_alloc _ _ _ hk]
      have hcells : CellsR G _ := cells_old hc fun k ⟨i, a, hg⟩ => hblk k (ghost_lt hc hg) fun e => hG i a (e ▸ hg)
      refine ⟨_, G, ν, rfl, hcells, .sh (.imm _ rfl), fun p hp => (List.mem_singleton.1 hp) ▸ ⟨g1, cap, sz, hn, hG, #[.pointer (some ⟨g, o, none⟩)], ?_, rfl, fun j v a h1 h2 => ?_⟩, fun p hp q hq _ _ _ => by rw [List.mem_singleton.1 hp, List.mem_singleton.1 hq], fun n _ => rfl, fun p hp k hk => .inr ⟨_, List.mem_singleton.2 rfl, by rw [List.mem_singleton.1 hp] at hk; exact hk⟩, ⟨rfl, rfl, rfl, by simp [World.setCell]; omega, .refl _, fun k hk hF => ⟨hblk k hk fun e => hF ⟨_, List.mem_singleton.2 rfl, by simp [blkOf, hn, e]⟩, rfl⟩⟩⟩
      · exact blk_set (heap_al (heap_al (heap_al (heap_al hh)))) 0 _
      · match j with
        | 0 => cases h1; cases h2; exact ⟨rfl, .sh (.ptr g o _ hcell)⟩
        | j + 1 => simp at h1
set_option maxRecDepth 8000
theorem code_h (c pl : Int) : Has Tryz.prog 37 [faultA c pl] (iA c) noTok := by
  refine fnX mixed ⟨[0, 2, 3, 4, 5, 9, 18], [3], [], [], []⟩ Tryz.func37 rfl rfl rfl (by kernel_rfl) rfl ?_
  have h := as_h c pl (.imm (.pointer none))
  simp only [faultA] at h
  simp [faultA]
  refine callH_of [(1000, 3)] [] h (by simp) (by simp) (by simp) ?_
  simp

theorem lcode_h (c pl : Int) : Has Tryz.prog 18 [faultA c pl] (iA c) noTok := by
  refine fnX mixed ⟨[0, 2, 3, 5, 13], [3], [], [], []⟩ Tryz.func18 rfl rfl rfl (by kernel_rfl) rfl ?_
  have h := as_h c pl (.imm (.pointer none))
  simp only [faultA] at h
  simp [faultA]
  refine callH_of [(1000, 3)] [] h (by simp) (by simp) (by simp) ?_
  simp
  refine callP_of (num_h c) (by simp) (by simp) ?_
  simp
theorem lcode_nil : Has Tryz.prog 18 [.imm .nilIface] (iA 0) noTok := by
  refine fnX mixed ⟨[0, 2, 3, 5, 13], [3], [], [], []⟩ Tryz.func18 rfl rfl rfl (by kernel_rfl) rfl ?_
  simp

theorem fault_ghost {G : Gh} {w w' : World} (hc : CellsR G w) (hB : Below w.heap.size w w') {b : Nat} (hb : w.heap.size ≤ b) {c pl : Int} (hh : w'.heap[b]? = some (.cells #[.int .i64 c, .int .i64 pl, .string ⟨#[]⟩, .nilIface] 118)) :
    ∃ G', CellsR G' w' ∧ Gle G G' ∧ (∀ g, g < w.heap.size → G' g = G g) ∧ RS G' (.iface 114 (.pointer (some ⟨b, 0, none⟩))) (faultA c pl) := by
  have hle := gset_le G b fun j => ([iA c, iA pl, sA noText, .imm .nilIface] : List AV)[j]?
  have hc' := cells_below hc hB
  refine ⟨gset G b fun j => ([iA c, iA pl, sA noText, .imm .nilIface] : List AV)[j]?, ⟨fun g0 i a hga => ?_, hc'.gl.mono hle⟩, hle, fun g0 hg0 => gset_ne _ _ (by omega), .ifc _ _ _ (.ptr b 0 _ fun j a ha => .inr ⟨rfl, by simpa using ha⟩)⟩
  rcases hga with hga | ⟨rfl, hga⟩
  · obtain ⟨v, k1, k2, k3⟩ := hc'.get _ _ _ hga
    exact ⟨v, k1, k2, k3.mono hle⟩
  · have cell : ∀ (j : Nat) (v : Value), (#[Value.int .i64 c, .int .i64 pl, .string ⟨#[]⟩, .nilIface] : Array Value)[j]? = some v → w'.cell? ⟨g0, j, none⟩ = some v := fun j v hv => by
      simp [World.cell?, hh, hv]
    match i with
    | 0 => cases hga; exact ⟨_, cell 0 _ rfl, rfl, .imm _ rfl⟩
    | 1 => cases hga; exact ⟨_, cell 1 _ rfl, rfl, .imm _ rfl⟩
    | 2 => cases hga; exact ⟨_, cell 2 _ rfl, rfl, .imm _ rfl⟩
    | 3 => cases hga; exact ⟨_, cell 3 _ rfl, rfl, .imm _ rfl⟩
    | i + 4 => simp at hga
theorem valid_bad (ps : List Part) (hb : PB ps) (c pl : Int) (hv : validF ps = some (c, pl)) : Has Tryz.prog 19 [.agg [psA ps]] (faultA c pl) noTok := by
  refine has_more Tryz.func19 rfl rfl rfl fun G w vals hc hl hr => ?_
  obtain ⟨l⟩ := vals
  match l, hl with
  | [v], _ =>
    have h0 := hr 0 v (.agg [psA ps]) rfl rfl
    cases h0 with
    | agg vs _ hl1 h1 h2 =>
      obtain ⟨l⟩ := vs
      match l, hl1 with
      | [pv], _ =>
        have hp := parts_of hc (h2 0 pv _ rfl rfl) hb
        refine (valid_c ps pv w hp).mono ?_
        rintro e w' ⟨v, rfl, hv'⟩
        rw [hv] at hv'
        obtain ⟨hB, b, rfl, hbw, hh⟩ := hv'
        obtain ⟨G', k1, k2, k3, k4⟩ := fault_ghost hc hB hbw hh
        exact ⟨_, G', rfl, hB, k1, k2, k3, k4⟩
theorem check_bad (ps : List Part) (scope : Int) (hsc : R64 scope) (hb : PB ps) (c pl : Int) (hv : checkF ps scope = .inl (c, pl, none)) : Has Tryz.prog 20 [.agg [psA ps], iA scope] (.tup [.sl [], faultA c pl]) noTok := by
  refine has_more Tryz.func20 rfl rfl rfl fun G w vals hc hl hr => ?_
  obtain ⟨l⟩ := vals
  match l, hl with
  | [v, sc], _ =>
    have h0 := hr 0 v (.agg [psA ps]) rfl rfl
    have hs := hr 1 sc (iA scope) rfl rfl
    cases hs
    cases h0 with
    | agg vs _ hl1 h1 h2 =>
      obtain ⟨l⟩ := vs
      match l, hl1 with
      | [pv], _ =>
        have hp := parts_of hc (h2 0 pv _ rfl rfl) hb
        refine (check_c ps pv scope w hp (glob_of hc) hsc).mono ?_
        rintro e w' ⟨tv, ev, rfl, hv'⟩
        rw [hv] at hv'
        obtain ⟨hB, rfl, b, hbw, rfl, hh⟩ := hv'
        obtain ⟨G', k1, k2, k3, k4⟩ := fault_ghost hc hB hbw hh
        refine ⟨_, G', rfl, hB, k1, k2, k3, .tup _ _ rfl fun j v a h1 h2 => ?_⟩
        match j with
        | 0 => cases h1; cases h2; exact .nil
        | 1 => cases h1; cases h2; exact k4
        | j + 2 => simp at h1
theorem plan_bad1 (ps : List Part) (scope : Int) (hb : PB ps) (c pl : Int) (hv : validF ps = some (c, pl)) : Has Tryz.prog 13 [.agg [psA ps], iA scope] (.tup [.agg [.sl [], .sl []], iA c]) noTok := by
  refine fnX mixed ⟨[0, 1, 2, 4, 5, 6, 8, 9, 10, 11, 12, 16, 27], [2, 4, 34, 42, 45, 10045], [], [(11, [45, 10045])], []⟩ Tryz.func13 rfl rfl rfl (by kernel_rfl) rfl ?_
  have h1 := valid_bad ps hb c pl hv
  have h2 := code_h c pl
  simp only [faultA, psA] at h1 h2
  simp [psA]
  refine callP_of h1 (by simp) (by simp) ?_
  simp
  refine callP_of h2 (by simp) (by simp) ?_
  simp
theorem plan_bad2 (ps : List Part) (scope : Int) (hsc : R64 scope) (hb : PB ps) (hv : validF ps = none) (c pl : Int) (hk : checkF ps scope = .inl (c, pl, none)) : Has Tryz.prog 13 [.agg [psA ps], iA scope] (.tup [.agg [.sl [], .sl []], iA c]) noTok := by
  refine fnX mixed ⟨[0, 1, 2, 4, 5, 6, 8, 9, 10, 11, 12, 16, 27], [2, 4, 34, 42, 45, 10045], [], [(11, [45, 10045])], []⟩ Tryz.func13 rfl rfl rfl (by kernel_rfl) rfl ?_
  have h1 := check_bad ps scope hsc hb c pl hk
  have h2 := code_h c pl
  have h3 := valid_ok ps hb hv
  simp only [faultA, psA] at h1 h2 h3
  simp [psA]
  refine callP_of h3 (by simp) (by simp) ?_
  simp
  refine callP_of h1 (by simp) (by simp) ?_
  simp
  refine callP_of h2 (by simp) (by simp) ?_
  simp
def codeF (ps : List Part) (scope : Int) : Int := match validF ps with
  | some q => q.1
  | none => match checkF ps scope with
    | .inl q => q.1
    | .inr _ => 0
def planX (ps : List Part) (scope : Int) : List PartD × List (List PartD) := match checkF ps scope with
  | .inl _ => ([], [])
  | .inr _ => planF ps
theorem check_cause {ps : List Part} {scope c pl : Int} {k : Option Int} (hv : validF ps = none) (h : checkF ps scope = .inl (c, pl, k)) : k = none := by
  unfold checkF at h
  split at h
  · cases h; rfl
  · rw [hv] at h
    simp only at h
    split at h
    · cases h; rfl
    · split at h
      · cases h; rfl
      · cases h
theorem check_valid {ps : List Part} {scope : Int} {q : Int × Int} (hv : validF ps = some q) : ∃ r, checkF ps scope = .inl r := by
  unfold checkF
  split
  · exact ⟨_, rfl⟩
  · obtain ⟨c, pl⟩ := q
    rw [hv]
    exact ⟨_, rfl⟩
end Go.Proofs.YtldnkeackphilaaGreatDoor.X
namespace Go.Proofs.YtldnkeackphilaaGreatDoor
open Go.RowKit

set_option maxRecDepth 8000

def partC (p : Part) : List AV := [iA p.kind, sA p.text, iA p.num, intsA p.kids]
def treeC (ps : List Part) : List AV := [.sl (ps.map partC)]
structure FitsT (ps : List Part) : Prop where
  len : ps.length ≤ 4398046511104
  each : ∀ p ∈ ps, p.kids.length ≤ 35184372088064
def largeGo : List Part → Nat → Nat
  | [], n => n
  | p :: l, n => if n ≤ 100000 then largeGo l (n + p.kids.length) else n
def largeF (ps : List Part) : Bool := decide (largeGo ps ps.length > 100000)
namespace X
theorem large_h (ps : List Part) (hp : FitsT ps) : Has Tryz.prog 26 [.agg (treeC ps)] (bA (largeF ps)) noTok := by
  refine fnX mixed ⟨[0, 1, 2, 3, 4, 16], [1], [], [], []⟩ Tryz.func26 rfl rfl rfl (by kernel_rfl) rfl ?_
  simp [treeC]
  refine wF_loop [] [.slot 1 1] [0, 1, 2, 3, 4] (fun x : Nat × Nat => St.asc [(0, .agg (treeC ps)), (1, .ref 1 0), (2, bA false), (3, iA x.2), (4, iA x.1)] [(1, .box 30 (treeC ps))] [(1, true)] false) (fun x => x.1 ≤ ps.length ∧ x.2 ≤ 4398046511104 + 35184372188064 ∧ largeGo (ps.drop x.1) x.2 = largeGo ps ps.length) (fun x => ps.length - x.1) (0, ps.length) _ (by simp) (by simp [treeC]) (by have := hp.len; simp; omega) ?_
  rintro ⟨i, n⟩ ⟨hi, hn, hm⟩
  have hlen := hp.len
  simp only at hi hn hm
  by_cases h : i < ps.length
  · have hx : ps[i]? = some ps[i] := List.getElem?_eq_getElem h
    have hk := hp.each ps[i] (List.getElem_mem h)
    rw [drop_at hx, largeGo] at hm
    generalize ps[i] = x at *
    have h1 : IntKind.i64.wrap ((i : Int) + 1) = (i : Int) + 1 := wrap64 (by omega) (by omega)
    have h2 : IntKind.i64.wrap ((n : Int) + x.kids.length) = (n : Int) + x.kids.length := wrap64 (by omega) (by omega)
    simp [treeC, partC, intsA, hx, h, h1, h2, -getElem?_pos]
    refine ⟨fun hn' => ⟨i + 1, n + x.kids.length, by simp [treeC, partC, intsA], ⟨by omega, by omega, ?_⟩, by omega⟩, fun hb => ?_⟩
    · rw [if_pos (by omega)] at hm
      exact hm
    · rw [if_neg (by omega)] at hm
      simp only [largeF, ← hm]
      rw [decide_eq_decide]
      omega
  · have : i = ps.length := by omega
    subst this
    rw [List.drop_length] at hm
    simp only [largeGo] at hm
    simp [treeC]
    simp only [largeF, ← hm]
    rw [decide_eq_decide]
    omega
end X
end Go.Proofs.YtldnkeackphilaaGreatDoor
namespace Go.Proofs.YtldnkeackphilaaGreatDoor
open Go.RowKit

set_option maxRecDepth 8000

theorem largeGo_ge : ∀ (l : List Part) (n : Nat), n ≤ largeGo l n
  | [], n => Nat.le_refl n
  | p :: l, n => by
    rw [largeGo]
    split
    · exact Nat.le_trans (Nat.le_add_right _ _) (largeGo_ge l _)
    · exact Nat.le_refl n
theorem largeGo_kids : ∀ (l : List Part) (n : Nat), largeGo l n ≤ 100000 → ∀ p ∈ l, p.kids.length ≤ 100000
  | [], _, _, p, hp => by cases hp
  | q :: l, n, h, p, hp => by
    rw [largeGo] at h
    split at h
    · rcases List.mem_cons.1 hp with rfl | hp
      · have := largeGo_ge l (n + p.kids.length); omega
      · exact largeGo_kids l _ h p hp
    · omega
namespace X
set_option maxHeartbeats 1000000 in
theorem copy_h (ps : List Part) (hp : FitsT ps) : Has Tryz.prog 14 [.agg (treeC ps)] (.agg (treeC ps)) noTok := by
  refine fnX mixed ⟨[0, 1, 2, 3, 4, 5, 6, 9, 15], [1, 2, 4, 6, 23, 26, 30, 31], [], [], []⟩ Tryz.func14 rfl rfl rfl (by kernel_rfl) (by simp [treeC]) ?_
  have h1 := large_h ps hp
  simp only [treeC] at h1 ⊢
  simp
  refine callP_of h1 (by simp) (by simp) ?_
  simp
  intro hL
  have hL' : largeGo ps ps.length ≤ 100000 := by simpa [largeF] using hL
  have hlen : ps.length ≤ 100000 := Nat.le_trans (largeGo_ge ps ps.length) hL'
  refine wF_loop [.slot 4 4 66] [.slot 1 1, .slot 4 4, .keep 2] [1, 2, 4, 5] (fun i : Nat => St.asc [(1, .ref 1 0), (2, .ref 2 0), (4, .rw 4 0 i), (5, iA i)] [(1, .box 30 [.sl (ps.map partC)]), (4, .row 66 ((ps.map partC).take i)), (2, .box 30 [.sl []])] [(1, true), (4, true), (2, true)] false) (fun i => i ≤ ps.length) (fun i => ps.length - i) 0 _ (by simp) (by simp) (by simp) ?_
  intro i hi
  by_cases h : i < ps.length
  · have hx : ps[i]? = some ps[i] := List.getElem?_eq_getElem h
    have hk := largeGo_kids ps _ hL' ps[i] (List.getElem_mem h)
    have htk : (ps.map partC).take (i + 1) = (ps.map partC).take i ++ [partC ps[i]] := by rw [List.take_add_one, List.getElem?_map, hx]; rfl
    generalize ps[i] = x at *
    have w1 : IntKind.i64.wrap ((i : Int) + 1) = (i : Int) + 1 := wrap64 (by omega) (by omega)
    have hmin : min i ps.length = i := by omega
    simp [hx, h, w1, partC, intsA, hmin, -getElem?_pos]
    refine ⟨⟨by omega, by omega⟩, ⟨by omega, by omega⟩, i + 1, ?_, by omega, by omega⟩
    rw [htk]
    simp [partC, intsA, List.take_take]
  · obtain rfl : i = ps.length := by omega
    have hll : List.take ps.length (List.map partC ps) = List.map partC ps := List.take_of_length_le (by simp)
    simp [hll]
end X
end Go.Proofs.YtldnkeackphilaaGreatDoor
namespace Go.Proofs.YtldnkeackphilaaGreatDoor.X
open Go.RowKit

theorem sides_code {kind num f g : Int} {mv : Bool} {i a b : Int} {q : Int × Int} (h : sidesG kind num f g mv i a b = some q) : q.1 ≠ 0 := by
  unfold sidesG at h
  by_cases h1 : f ≠ 2 ∧ f ≠ 3
  · rw [if_pos h1] at h; cases h; simp
  · rw [if_neg h1] at h
    by_cases h2 : (if kind = 7 then g = 6 ∨ (g = 4 ∧ f = 2) ∨ (g = 5 ∧ f = 3) else g = f)
    · rw [if_neg (fun hn => hn h2)] at h
      by_cases h3 : kind = 6 ∧ f = 2 ∧ 2 < num
      · rw [if_pos h3] at h; cases h; simp
      · rw [if_neg h3] at h
        cases mv
        · cases h
        · cases h; simp
    · rw [if_pos h2] at h; cases h; simp
theorem code_pos {ps : List Part} {sc : List Int} : ∀ (l : List Part) (i : Nat) (ts0 : List (Int × Int)) (q : Int × Int), typesGo ps sc l i ts0 = .inl q → q.1 ≠ 0
  | [], _, _, _, h => by simp [typesGo] at h
  | p :: r, i, ts0, q, h => by
    rw [typesGo] at h
    split at h
    · next f hf =>
      cases h
      have orE : ∀ {g : Option (Int × Int)} {u : Int × Int}, orElse g u = .inl q → g = some q := fun {g u} h => by
        unfold orElse at h
        split at h
        · cases h; rfl
        · cases h
      have hb : ∀ (ts : List (Int × Int)) (kids : List Int), boolsF ts kids = some q → q.1 ≠ 0 := fun ts kids h => by
        unfold boolsF at h
        obtain ⟨k, -, rfl⟩ := Option.map_eq_some_iff.1 h
        simp
      have hsel : selectorF sc ts0 i p = some q → q.1 ≠ 0 := fun h => by
        unfold selectorF at h
        split at h
        · cases h; simp
        · split at h
          · cases h; simp
          · exact hb _ _ h
      unfold typeF at hf
      split at hf
      · cases hf
      split at hf
      · exact hb _ _ (orE hf)
      split at hf
      · have := orE hf
        exact sides_code this
      split at hf
      · exact hsel (orE hf)
      split at hf
      · exact hsel (orE hf)
      split at hf
      · cases hf
      split at hf
      · cases hf
      split at hf
      · unfold setF at hf
        split at hf
        · cases hf
        · split at hf
          · cases hf; simp
          · split at hf <;> cases hf
      split at hf
      · split at hf
        · cases hf; simp
        · cases hf
      · unfold speaksF at hf
        repeat' split at hf
        all_goals first
          | (cases hf; done)
          | (injection hf with hf; subst hf; simp)
    · exact code_pos r (i + 1) _ q h
theorem codes {ps : List Part} {scope : Int} : (codeF ps scope ≠ 0 → planX ps scope = ([], [])) ∧ (codeF ps scope = 0 → ∃ ts, checkF ps scope = .inr ts ∧ planX ps scope = planF ps) := by
  rcases hv : validF ps with _ | ⟨c, pl⟩
  · rcases hk : checkF ps scope with ⟨c, pl, k⟩ | ts
    · refine ⟨fun _ => by simp [planX, hk], fun h => ?_⟩
      exfalso
      have hc : c = 0 := by simpa [codeF, hv, hk] using h
      subst hc
      unfold checkF at hk
      split at hk
      · simp at hk
      · rw [hv] at hk
        simp only at hk
        split at hk
        · next q1 q2 hq =>
          have := code_pos _ _ _ _ hq
          simp only [Sum.inl.injEq, Prod.mk.injEq] at hk
          exact this hk.1
        · split at hk
          · simp at hk
          · cases hk
    · exact ⟨fun h => absurd (by simp [codeF, hv, hk]) h, fun _ => ⟨ts, rfl, by simp [planX, hk]⟩⟩
  · obtain ⟨r, hr⟩ := check_valid (scope := scope) hv
    refine ⟨fun _ => by simp [planX, hr], fun h => ?_⟩
    exfalso
    have hc : c = 0 := by simpa [codeF, hv] using h
    unfold validF at hv
    split at hv
    · cases hv; cases hc
    · obtain ⟨k, -, h⟩ := Option.map_eq_some_iff.1 hv
      cases h; cases hc
theorem copy_x (ps : List Part) (hb : PB ps) : Has Tryz.prog 14 [.agg [psA ps]] (.agg [psA ps]) noTok := copy_h ps ⟨by have := hb.len; omega, fun p hp => (hb.part p hp).2.2.2.1⟩
set_option maxRecDepth 8000
end Go.Proofs.YtldnkeackphilaaGreatDoor.X
namespace Go.Proofs.YtldnkeackphilaaGreatDoor.X
open Go.RowKit

theorem valid_code {ps : List Part} {c pl : Int} (h : validF ps = some (c, pl)) : c ≠ 0 := by
  rintro rfl
  have h0 : codeF ps 2 = 0 := by simp [codeF, h]
  obtain ⟨ts, h1, -⟩ := codes.2 h0
  have := (typed_of h1).valid
  rw [h] at this
  cases this
theorem check_code {ps : List Part} {scope c pl : Int} {k : Option Int} (hv : validF ps = none) (h : checkF ps scope = .inl (c, pl, k)) : c ≠ 0 := by
  rintro rfl
  have h0 : codeF ps scope = 0 := by simp [codeF, hv, h]
  obtain ⟨ts, h1, -⟩ := codes.2 h0
  rw [h] at h1
  cases h1
set_option maxRecDepth 8000
set_option maxHeartbeats 1000000 in
theorem refused_1 (ps : List Part) (scope : Int) (hsc : R64 scope) (hb : PB ps) (c pl : Int) (hv : validF ps = some (c, pl)) : Has Tryz.prog 5 [.agg [psA ps], iA scope] (bA true) noTok := by
  refine fnX mixed ⟨[0, 1, 2, 4, 5, 6, 7, 9, 11, 24, 37, 39], [2, 5], [], [], []⟩ Tryz.func5 rfl rfl rfl (by kernel_rfl) rfl ?_
  have h1 := copy_x ps hb
  have h2 := plan_bad1 ps scope hb c pl hv
  have h3 := valid_bad ps hb c pl hv
  have h4 := lcode_h c pl
  have h0 := valid_code hv
  simp only [psA, partsA, selsA, faultA] at h1 h2 h3 h4
  simp [psA]
  refine callP_of awake_h (by simp) (by simp) ?_
  simp
  refine callP_of h1 (by simp) (by simp) ?_
  simp
  refine callP_of h2 (by simp) (by simp) ?_
  simp
  refine callP_of h1 (by simp) (by simp) ?_
  simp
  refine callP_of h3 (by simp) (by simp) ?_
  simp
  refine callP_of h4 (by simp) (by simp) ?_
  simp [h0]
  refine callP_of (num_h c) (by simp) (by simp) ?_
  simp [h0]
set_option maxHeartbeats 1000000 in
theorem refused_2 (ps : List Part) (scope : Int) (hsc : R64 scope) (hb : PB ps) (hv : validF ps = none) (c pl : Int) (hk : checkF ps scope = .inl (c, pl, none)) : Has Tryz.prog 5 [.agg [psA ps], iA scope] (bA true) noTok := by
  refine fnX mixed ⟨[0, 1, 2, 4, 5, 6, 7, 9, 11, 24, 37, 39], [2, 5], [], [], []⟩ Tryz.func5 rfl rfl rfl (by kernel_rfl) rfl ?_
  have h1 := copy_x ps hb
  have h2 := plan_bad2 ps scope hsc hb hv c pl hk
  have h3 := valid_ok ps hb hv
  have h4 := lcode_h c pl
  have h5 := check_bad ps scope hsc hb c pl hk
  have h0 := check_code hv hk
  simp only [psA, partsA, selsA, faultA] at h1 h2 h3 h4 h5
  simp [psA]
  refine callP_of awake_h (by simp) (by simp) ?_
  simp
  refine callP_of h1 (by simp) (by simp) ?_
  simp
  refine callP_of h2 (by simp) (by simp) ?_
  simp
  refine callP_of h1 (by simp) (by simp) ?_
  simp
  refine callP_of h3 (by simp) (by simp) ?_
  simp
  refine callP_of lcode_nil (by simp) (by simp) ?_
  simp
  refine callP_of h1 (by simp) (by simp) ?_
  simp
  refine callP_of h5 (by simp) (by simp) ?_
  simp
  refine callP_of h4 (by simp) (by simp) ?_
  simp [h0]
  refine callP_of (num_h c) (by simp) (by simp) ?_
  simp [h0]
set_option maxHeartbeats 1000000 in
theorem refused_3 (ps : List Part) (scope : Int) (hsc : R64 scope) (hb : PB ps) (ts : List (Int × Int)) (hts : checkF ps scope = .inr ts) : Has Tryz.prog 5 [.agg [psA ps], iA scope] (bA true) noTok := by
  refine fnX mixed ⟨[0, 1, 2, 4, 5, 6, 7, 9, 11, 24, 37, 39], [2, 5], [], [], []⟩ Tryz.func5 rfl rfl rfl (by kernel_rfl) rfl ?_
  have h1 := copy_x ps hb
  have h2 := plan_good ps scope hsc hb ts hts
  have h3 := valid_ok ps hb (typed_of hts).valid
  have h5 := check_ok ps scope hsc hb ts hts
  have k6 := (plan_fits (typed_of hts).valid).2
  have k5 := (plan_valid hts).2
  have h6 := nValid_h _ k6
  rw [(plan_valid hts).1] at h6
  generalize planF ps = q at *
  obtain ⟨main, sels⟩ := q
  simp only at k5
  have hpos := List.length_pos_iff.2 k5
  simp only [psA, partsA, selsA, planCs] at h1 h2 h3 h5 h6
  simp [psA]
  refine callP_of awake_h (by simp) (by simp) ?_
  simp
  refine callP_of h1 (by simp) (by simp) ?_
  simp
  refine callP_of h2 (by simp) (by simp) ?_
  simp
  refine callP_of h1 (by simp) (by simp) ?_
  simp
  refine callP_of h3 (by simp) (by simp) ?_
  simp
  refine callP_of lcode_nil (by simp) (by simp) ?_
  simp
  refine callP_of h1 (by simp) (by simp) ?_
  simp
  refine callP_of h5 (by simp) (by simp) ?_
  simp
  refine callP_of lcode_nil (by simp) (by simp) ?_
  simp
  refine callP_of (num_h 0) (by simp) (by simp) ?_
  simp
  refine callP_of h6 (by simp) (by simp) ?_
  simp
  first
    | exact k5
    | omega
theorem normRefused_h (ps : List Part) (scope : Int) (hsc : R64 scope) (hb : PB ps) : Has Tryz.prog 5 [.agg [psA ps], iA scope] (bA true) noTok := by
  rcases hv : validF ps with _ | ⟨c, pl⟩
  · rcases hk : checkF ps scope with ⟨c, pl, k⟩ | ts
    · obtain rfl := check_cause hv hk
      exact refused_2 ps scope hsc hb hv c pl hk
    · exact refused_3 ps scope hsc hb ts hk
  · exact refused_1 ps scope hsc hb c pl hv
end Go.Proofs.YtldnkeackphilaaGreatDoor.X
namespace Go.Proofs.YtldnkeackphilaaGreatDoor
open Go.RowKit

theorem map_of {α : Type} {f : α → List AV} {Q : α → Prop} : ∀ {es : List (List AV)}, (∀ x ∈ es, ∃ y, x = f y ∧ Q y) → ∃ L : List α, es = L.map f ∧ ∀ y ∈ L, Q y
  | [], _ => ⟨[], rfl, fun y hy => by simp at hy⟩
  | x :: es, h => by
    obtain ⟨y, rfl, hy⟩ := h x (by simp)
    obtain ⟨L, rfl, hL⟩ := map_of (es := es) fun z hz => h z (by simp [hz])
    exact ⟨y :: L, rfl, fun z hz => by rcases List.mem_cons.1 hz with rfl | hz; exact hy; exact hL z hz⟩
theorem len_of {n k m : Nat} (h : n * k ≤ reachBytes) (hk : 140737488351232 ≤ m * k) (h0 : 0 < k) : n ≤ m := by
  refine Nat.le_of_mul_le_mul_right (Nat.le_trans h ?_) h0
  simpa [reachBytes] using hk
theorem ints_of' {l : List AV} (h : (PT.sl .nu 8).Of l) : ∃ L : List Int, l = [intsA L] ∧ L.length ≤ 17592186043904 ∧ ∀ k ∈ L, -9223372036854775808 ≤ k ∧ k ≤ 9223372036854775807 := by
  obtain ⟨es, rfl, hl, he⟩ := h
  obtain ⟨L, rfl, hL⟩ := map_of (f := fun n : Int => [iA n]) (Q := fun k => -9223372036854775808 ≤ k ∧ k ≤ 9223372036854775807) fun x hx => he x hx
  exact ⟨L, rfl, len_of (k := 8) (by simpa using hl) (by omega) (by omega), hL⟩
end Go.Proofs.YtldnkeackphilaaGreatDoor
