/- The linear calculus: append, rows, calls. -/
import Derived.Test.YtldnkeackphilaaGreatDoorNd4
set_option linter.unusedSimpArgs false
set_option linter.unusedVariables false
namespace Go.Proofs.YtldnkeackphilaaGreatDoor.X
open Go.RowKit

section
variable {P : Program} {N : Nat} {C : Cx} {G : Gh} {ν : Nu} {w : World} {tm : Array Value} {st : St}
theorem slE_some {lo len : Nat} {b : Option Blk} {p : TypeId × List (List AV)} (h : slE lo len b = some p) : ∃ es, b = some (.row p.1 es) ∧ lo + len ≤ es.length ∧ p.2 = (es.drop lo).take len := by
  unfold slE at h
  split at h
  · next E es =>
    split at h
    · next hl => cases h; exact ⟨es, rfl, hl, rfl⟩
    · cases h
  · cases h
theorem news_of (h : Inv P N C G ν w tm st) {x : Value} {b : AV} (hx : RN G ν x b) {es2 : List (List AV)} (he : appX st b = some es2) {sz : Nat} (hs2 : ∀ e ∈ es2, e.length = sz) :
    ∃ (A : Option Addr) (c : Nat) (news : List Value), x = .slice A es2.length c ∧ news.length = es2.length * sz ∧ (∀ (j : Nat) u, news[j]? = some u → u.oneCell' = true ∧ ∀ a, es2.flatten[j]? = some a → RS G u a) ∧ (0 < es2.length → ∃ a, A = some a ∧ ∀ (j : Nat) u, news[j]? = some u → w.cell? (a.add j) = some u) := by
  have hfl2 := flat_len hs2
  have mk : ∀ (gx ox : Nat), (∀ j, j < es2.length * sz → ∃ u, w.cell? ⟨gx, ox + j, none⟩ = some u ∧ u.oneCell' = true ∧ ∀ a, es2.flatten[j]? = some a → RS G u a) →
      ∃ news : List Value, news.length = es2.length * sz ∧ (∀ (j : Nat) u, news[j]? = some u → u.oneCell' = true ∧ ∀ a, es2.flatten[j]? = some a → RS G u a) ∧ ∀ (j : Nat) u, news[j]? = some u → w.cell? ((⟨gx, ox, none⟩ : Addr).add j) = some u := by
    intro gx ox key
    refine ⟨(List.range (es2.length * sz)).map fun j => (w.cell? ⟨gx, ox + j, none⟩).getD undef, by simp, fun j u hu => ?_, fun j u hu => ?_⟩
    · have hj : j < es2.length * sz := by
        have := (List.getElem?_eq_some_iff.1 hu).1
        simpa using this
      obtain ⟨u', h2, h3, h4⟩ := key j hj
      have : u = u' := by simpa [hj, h2] using hu.symm
      subst this
      exact ⟨h3, h4⟩
    · have hj : j < es2.length * sz := by
        have := (List.getElem?_eq_some_iff.1 hu).1
        simpa using this
      obtain ⟨u', h2, h3, h4⟩ := key j hj
      have : u = u' := by simpa [hj, h2] using hu.symm
      subst this
      rw [Addr.add_mid]
      exact h2
  have empty : es2 = [] → ∀ A c, x = .slice A 0 c → ∃ (A : Option Addr) (c : Nat) (news : List Value), x = .slice A es2.length c ∧ news.length = es2.length * sz ∧ (∀ (j : Nat) u, news[j]? = some u → u.oneCell' = true ∧ ∀ a, es2.flatten[j]? = some a → RS G u a) ∧ (0 < es2.length → ∃ a, A = some a ∧ ∀ (j : Nat) u, news[j]? = some u → w.cell? (a.add j) = some u) := by
    intro e A c hx
    subst e
    exact ⟨A, c, [], hx, by simp, fun j u hu => by simp at hu, fun h => absurd h (by simp)⟩
  unfold appX at he
  split at he
  · cases he
    exact empty rfl none 0 hx.nlI
  · next es =>
    cases he
    have hv := hx.slI
    cases hv with
    | nil => exact empty rfl _ 0 rfl
    | sl g o sz' c es hsz hc hcell =>
      by_cases h0 : 0 < es2.length
      · have hfl := (RS.sl (G := G) g o sz' c es2 hsz hc hcell).flat hs2
        obtain ⟨-, -, hfl⟩ := hfl
        obtain ⟨g', o', e, hcl⟩ := hfl h0
        cases e
        obtain ⟨news, n1, n2, n3⟩ := mk g o fun j hj => by
          have hj' : j < es2.flatten.length := by rw [hfl2]; exact hj
          obtain ⟨u, h1, h2, h3⟩ := h.cells _ _ _ (hcl j _ (List.getElem?_eq_getElem hj'))
          exact ⟨u, h1, h2, fun a ha => by rw [List.getElem?_eq_getElem hj'] at ha; cases ha; exact h3⟩
        exact ⟨_, c, news, rfl, n1, n2, fun _ => ⟨_, rfl, n3⟩⟩
      · have e : es2 = [] := List.eq_nil_of_length_eq_zero (by omega)
        exact empty e (some ⟨g, o, none⟩) c (by rw [e]; rfl)
  · next n lo len =>
    obtain ⟨p, hp, rfl⟩ := Option.map_eq_some_iff.1 he
    obtain ⟨es, hb, hl, e2⟩ := slE_some hp
    have hlen : p.2.length = len := by rw [e2]; simp; omega
    rcases hx.rwI with ⟨cap, sz', q1, rfl, rfl, rfl⟩ | ⟨g, cap, sz', o, q1, rfl, q3, q4⟩
    · exact empty (List.eq_nil_of_length_eq_zero hlen) none 0 rfl
    · by_cases h0 : 0 < len
      · obtain ⟨k0, kr⟩ := h.blks n _ hb
        rcases kr with ⟨cap', k1, _⟩ | ⟨g', cap', k1, k2, k3, k4, vs, k5, k6, k7⟩
        · rw [q1] at k1; cases k1
        rw [q1] at k1
        cases k1
        have hsz : szP P p.1 = sz := by
          obtain ⟨e, r, hr⟩ : ∃ e r, p.2 = e :: r := by
            cases hp2 : p.2 with
            | nil => rw [hp2] at hlen; simp at hlen; omega
            | cons e r => exact ⟨e, r, rfl⟩
          have h1 := hs2 e (by rw [hr]; simp)
          rw [← h1]
          exact (k0 e (List.mem_of_mem_drop (List.mem_of_mem_take (by rw [← e2, hr]; simp)))).symm
        obtain ⟨news, n1, n2, n3⟩ := mk g o fun j hj => by
          have hj' : j < p.2.flatten.length := by rw [hfl2]; exact hj
          obtain ⟨i, e, k, r1, r2, rfl⟩ := flat_inv hs2 (List.getElem?_eq_getElem hj')
          have hil : i < len := by rw [← hlen]; exact (List.getElem?_eq_some_iff.1 r1).1
          have r1' : es[lo + i]? = some e := by
            rw [e2, List.getElem?_take_of_lt hil, List.getElem?_drop] at r1
            exact r1
          have hfe := flat_get k0 r1' r2
          have hlt : (lo + i) * szP P p.1 + k < vs.size := by
            have := (List.getElem?_eq_some_iff.1 hfe).1
            rw [flat_len k0] at this
            rw [k6]
            exact Nat.lt_of_lt_of_le this (Nat.mul_le_mul_right _ k3)
          obtain ⟨s1, s2⟩ := k7 _ _ _ (Array.getElem?_eq_getElem hlt) hfe
          refine ⟨vs[(lo + i) * szP P p.1 + k], ?_, s1, fun a ha => ?_⟩
          · rw [q4 (.inl (by omega)), cell_of_row _ _ _ _ _ _ k5, ← hsz, ← Nat.add_assoc, ← Nat.add_mul]
            exact Array.getElem?_eq_getElem hlt
          · rw [List.getElem?_eq_getElem hj'] at ha
            cases ha
            exact s2
        exact ⟨_, _, news, by rw [hlen], n1, n2, fun _ => ⟨_, rfl, n3⟩⟩
      · have e : p.2 = [] := List.eq_nil_of_length_eq_zero (by omega)
        exact empty e _ _ (by rw [show len = 0 by omega])
  · cases he
theorem append_sound {a : Act} {o : Oper} {K : Act → World → Prop} {QQ : Exit → Act → World → Prop} {d : Nat} {s x : Operand} {T E : TypeId} {es es2 : List (List AV)} {ns : List Nat} (hds : a.defers = []) (h : Inv P N C G ν w a.tmps st) (hdst : o.dst = some d)
    (hop : o.op = .call { callee := .builtin .append, args := #[s, x], argTypes := #[T, T] }) (hd : d < N) (hu : st.usd d = false) (hE : elemP P T = some E) (hok : st.ok true s) (hox : st.ok true x) (hs : appS st E (st.get s) = some (es, ns)) (hx : appX st (st.get x) = some es2) (hc : appC P E es es2)
    (hK : Cont P N C K (st.app ⟨some d, .rw d 0 (es.length + es2.length), (d, some (.row E (es ++ es2))) :: dropE ns, [d]⟩)) : o.wp P a w K QQ := by
  obtain ⟨hs2, hb, h63, hpos, hz⟩ := hc
  have hund := elem_und hE
  obtain ⟨i, hi⟩ : ∃ i, P.info? E = some i := by
    unfold zszP zeroP at hz
    cases hi : P.info? E with
    | none => simp [hi] at hz
    | some i => exact ⟨i, rfl⟩
  have hsz : szP P E = i.size := by simp [szP, hi]
  have hby : bytesP P E = i.bytes := by simp [bytesP, hi]
  obtain ⟨z, hzz, hzs⟩ : ∃ z, i.zero = some z ∧ z.cells.size = i.size := by
    unfold zszP zeroP at hz
    simp only [hi, Option.bind_some] at hz
    cases hz0 : i.zero with
    | none => rw [hz0] at hz; cases hz
    | some z => rw [hz0] at hz; exact ⟨z, rfl, by rw [← hsz]; simpa using hz⟩
  obtain ⟨A, c, news, hxv, hnl, hn1, hnA⟩ := news_of h (get_sound h rfl hox) hx hs2
  -- the row that is appended to
  obtain ⟨xs, hown, hxs1, hsrc⟩ : ∃ xs, w.ownsRow 0 E i.size (a.eval s) es.length xs ∧ (∀ (j : Nat) u b, xs[j]? = some u → es.flatten[j]? = some b → u.oneCell' = true ∧ RS G u b) ∧ (∀ e ∈ es, e.length = szP P E) ∧
      ((ns = [] ∧ (a.eval s).ownBlock = none) ∨ ∃ n es', ns = [n] ∧ st.blk n = some (.row E es') ∧ (a.eval s).ownBlock = blkOf ν n) := by
    have hv := get_sound h rfl hok
    unfold appS at hs
    split at hs
    · cases hs
      rw [‹st.get s = .nl›] at hv
      have := hv.nlI
      rw [this]
      exact ⟨[], World.ownsRow_nil _ _ _ _, fun j u b hu => by simp at hu, fun e he => by simp at he, .inl ⟨rfl, rfl⟩⟩
    · next n len e =>
      split at hs
      · next p hp =>
        split at hs
        · next hpE =>
          cases hs
          obtain ⟨es', hb', hl, e2⟩ := slE_some hp
          rw [hpE] at hb'
          rw [e] at hv
          simp only [List.drop_zero, Nat.zero_add] at e2 hl
          obtain ⟨k0, kr⟩ := h.blks n _ hb'
          have hlen : p.2.length = len := by rw [e2]; simp; omega
          have hk0 : ∀ e ∈ p.2, e.length = szP P E := fun e he => k0 e (List.mem_of_mem_take (by rw [← e2]; exact he))
          rcases kr with ⟨cap', k1, k2⟩ | ⟨g', cap', k1, k2, k3, k4, vs, k5, k6, k7⟩
          · subst k2
            have hl0 : len = 0 := by simpa using hl
            have hp2 : p.2 = [] := List.eq_nil_of_length_eq_zero (by omega)
            rcases hv.rwI with ⟨cap, sz', q1, q2, -, -⟩ | ⟨g, cap, sz', o, q1, q2, q3, q4⟩
            · rw [q2, hp2]
              exact ⟨[], World.ownsRow_nil _ _ _ _, fun j u b hu => by simp at hu, fun e he => by simp at he, .inr ⟨n, [], rfl, hb', by simp [blkOf, k1, Value.ownBlock]⟩⟩
            · rw [q1] at k1; cases k1
          · rcases hv.rwI with ⟨cap, sz', q1, q2, -, -⟩ | ⟨g, cap, sz', o, q1, q2, q3, q4⟩
            · rw [q1] at k1; cases k1
            rw [q1] at k1
            cases k1
            have ho : o = 0 := by rw [q4 (.inr rfl)]; simp
            subst ho
            rw [q2]
            have hmul : len * i.size ≤ vs.size := by rw [k6, ← hsz]; exact Nat.mul_le_mul_right _ (by omega)
            refine ⟨vs.toList.take (len * i.size), ⟨by simp [hlen]; omega, .inr ⟨g', cap' - 0, vs, by rw [hlen], Nat.zero_le _, k5, by omega, by simpa using k4, by rw [k6, hsz]; rfl, by rw [hlen]⟩⟩, fun j u b hu hb2 => ?_, hk0, .inr ⟨n, es', rfl, hb', by simp [blkOf, q1, Value.ownBlock]⟩⟩
            have hj : j < len * i.size := by
              have := (List.getElem?_eq_some_iff.1 hu).1
              simp at this
              omega
            rw [List.getElem?_take_of_lt hj, Array.getElem?_toList] at hu
            refine k7 j u b hu ?_
            obtain ⟨i2, e3, j2, r1, r2, rfl⟩ := flat_inv hk0 hb2
            refine flat_get k0 ?_ r2
            have hi2 : i2 < len := by rw [← hlen]; exact (List.getElem?_eq_some_iff.1 r1).1
            rw [e2, List.getElem?_take_of_lt hi2] at r1
            exact r1
        · cases hs
      · cases hs
    · cases hs
  obtain ⟨hs1, hsrc⟩ := hsrc
  rw [hsz] at hnl
  obtain ⟨v', w', hrun, hr', hcase⟩ := run_append_tok (P := P) w T o.type E i z hund hi hzz hzs (by rw [← hsz]; exact hpos) (a.eval s) es.length xs hown A es2.length c news hnl hnA (fun u hu => by
    obtain ⟨j, hj⟩ := List.getElem?_of_mem hu
    exact (hn1 j u hj).1) (by rw [← hby]; exact hb) h63
  have hrun' : (execOp a.eval o).run P w = .ok (.value v') w' := by
    obtain ⟨dst, op, ty, pos, aft, gd⟩ := o
    simp only at hop hrun
    subst hop
    simp only [execOp, resolve, invoke, builtin, Sem.run_bind, Sem.run_pure, Result.andThen_ok, List.map_toArray, List.map_cons, List.map_nil, hxv, hrun]
  refine wp_val hrun' ?_
  rw [hdst]
  have hall : ∀ e ∈ es ++ es2, e.length = szP P E := fun e he => by
    rcases List.mem_append.1 he with he | he
    · exact hs1 e he
    · exact hs2 e he
  have hxl : xs.length = es.length * i.size := hown.1
  have hfl1 := flat_len hs1
  -- what the new row reads
  have hrow : ∀ (ν' : Nu) (m : Nat), (∀ g, v'.ownBlock = some g → (∀ i a, ¬ G g i a) ∧ ∃ cap, ν' m = some ⟨some g, cap, szP P E⟩ ∧ ∃ l, v' = .slice (some ⟨g, 0, none⟩) l cap) → (v'.ownBlock = none → ∃ cap, ν' m = some ⟨none, cap, szP P E⟩) → BlkR P G ν' w' m (.row E (es ++ es2)) := by
    intro ν' m h1 h2
    refine ⟨hall, ?_⟩
    rcases hr'.2 with ⟨r1, r2⟩ | ⟨g, cap, cur, r1, -, r3, r4, r5, r6, r7⟩
    · obtain ⟨cap, hm⟩ := h2 (by rw [r1]; rfl)
      have he1 : es = [] := List.eq_nil_of_length_eq_zero (by omega)
      have he2 : es2 = [] := List.eq_nil_of_length_eq_zero (by omega)
      exact .inl ⟨cap, hm, by rw [he1, he2]; rfl⟩
    · obtain ⟨q1, cap', q2, l, q3⟩ := h1 g (by rw [r1]; rfl)
      have : cap' = cap := by rw [r1] at q3; cases q3; rfl
      subst this
      refine .inr ⟨g, cap', q2, q1, by simpa using r4, r5, cur, r3, by rw [r6, hsz], fun j u b hu hb2 => ?_⟩
      have hjl : j < (es.length + es2.length) * i.size := by
        have := (List.getElem?_eq_some_iff.1 hb2).1
        rw [flat_len hall, List.length_append, hsz] at this
        exact this
      have hcur : (xs ++ news)[j]? = some u := by
        rw [← r7, List.getElem?_take_of_lt hjl, Array.getElem?_toList]
        exact hu
      rw [List.flatten_append] at hb2
      by_cases hj : j < xs.length
      · rw [List.getElem?_append_left hj] at hcur
        rw [List.getElem?_append_left (by rw [hfl1, hsz, ← hxl]; exact hj)] at hb2
        exact hxs1 j u b hcur hb2
      · rw [List.getElem?_append_right (by omega)] at hcur
        rw [List.getElem?_append_right (by rw [hfl1, hsz, ← hxl]; omega), hfl1, hsz, ← hxl] at hb2
        exact ⟨(hn1 _ u hcur).1, (hn1 _ u hcur).2 b hb2⟩
  have hval : ∀ (ν' : Nu) m, (∀ g, v'.ownBlock = some g → ∃ cap, ν' m = some ⟨some g, cap, szP P E⟩ ∧ ∃ l, v' = .slice (some ⟨g, 0, none⟩) l cap) → (v'.ownBlock = none → ∃ cap, ν' m = some ⟨none, cap, szP P E⟩) → RN G ν' v' (.rw m 0 (es.length + es2.length)) := by
    intro ν' m h1 h2
    rcases hr'.2 with ⟨r1, r2⟩ | ⟨g, cap, cur, r1, -, r3, r4, r5, r6, r7⟩
    · obtain ⟨cap, hm⟩ := h2 (by rw [r1]; rfl)
      rw [r1, r2]
      exact .rw0 m cap _ hm
    · obtain ⟨cap', q2, l, q3⟩ := h1 g (by rw [r1]; rfl)
      have : cap' = cap := by rw [r1] at q3; cases q3; rfl
      subst this
      have := RN.rw (G := G) (ν := ν') m 0 (es.length + es2.length) g cap' (szP P E) 0 q2 (by omega) (fun _ => by simp)
      rw [r1]
      exact this
  have hshape : ∀ g, v'.ownBlock = some g → ∃ cap l, v' = .slice (some ⟨g, 0, none⟩) l cap := fun g hg => by
    rcases hr'.2 with ⟨r1, r2⟩ | ⟨g', cap, cur, r1, -⟩
    · rw [r1] at hg; cases hg
    · rw [r1] at hg ⊢
      have : g' = g := by simpa [Value.ownBlock] using hg
      subst this
      exact ⟨cap, _, rfl⟩
  have fin : ∀ (ν' : Nu) (s1 : St), Inv P N C G ν' w' a.tmps s1 → RN G ν' v' (.rw d 0 (es.length + es2.length)) → (∀ u, s1.val u = st.val u) → (∀ m, s1.blk m = if m = d then some (.row E (es ++ es2)) else if m ∈ ns then none else st.blk m) → (∀ m, s1.usd m = (m == d || st.usd m)) → K (a.put (some d) v') w' := by
    intro ν' s1 hi1 hv1 e1 e2 e3
    have := hi1.putv hd (.x hv1)
    refine hK (a.put (some d) v') w' G ν' hds ?_
    have heq : s1.putv d (.rw d 0 (es.length + es2.length)) = st.app ⟨some d, .rw d 0 (es.length + es2.length), (d, some (.row E (es ++ es2))) :: dropE ns, [d]⟩ := by
      obtain ⟨q1, q2, q3⟩ := setL_drop st ns
      refine St.ext' (fun u => ?_) (fun m => ?_) (fun m => ?_)
      · show (if u = d then _ else s1.val u) = (if u = d then _ else (st.setL (dropE ns)).val u)
        rw [e1, q1]
      · show s1.blk m = (if m = d then _ else (st.setL (dropE ns)).blk m)
        rw [e2, q3]
      · show s1.usd m = (m == d || (st.setL (dropE ns)).usd m)
        rw [e3, q2]
    rw [← heq]
    exact this
  have grow : w.grownBy w' none → (∀ g, v'.ownBlock = some g → w.heap.size ≤ g) → K (a.put (some d) v') w' := by
    intro hg1 hge
    obtain ⟨hnu, hnb⟩ := h.none_of hu
    have step : ∀ x : NV, (∀ g, x.blk = some g → w.heap.size ≤ g) → BlkR P G (ν.set d x) w' d (.row E (es ++ es2)) → RN G (ν.set d x) v' (.rw d 0 (es.length + es2.length)) → K (a.put (some d) v') w' := by
      intro x hx1 hB hV
      have hnew := h.new hu x (.row E (es ++ es2)) (w' := w') hg1.os hg1.tape hg1.output hg1.size (fun g hg => hg1.block g hg (by simp)) hx1 hB
      have hdr := Inv.drops ns hnew
      obtain ⟨q1, q2, q3⟩ := drops_is ns ((st.setB d (some (.row E (es ++ es2)))).use d)
      refine fin _ _ hdr hV (fun u => by rw [q1]; rfl) (fun m => ?_) (fun m => by rw [q2]; rfl)
      rw [q3]
      show (if m ∈ ns then none else if m = d then _ else st.blk m) = _
      by_cases e : m = d
      · subst e
        rw [if_neg, if_pos rfl, if_pos rfl]
        rcases hsrc with ⟨rfl, -⟩ | ⟨n, es', rfl, hb', -⟩
        · simp
        · simp only [List.mem_singleton]
          rintro rfl
          rw [hnb] at hb'
          cases hb'
      · simp [e]
    cases hvb : v'.ownBlock with
    | none => exact step ⟨none, 0, szP P E⟩ (fun g hg => by cases hg) (hrow _ _ (fun g hg => by rw [hvb] at hg; cases hg) (fun _ => ⟨0, Nu.set_eq _ _ _⟩)) (hval _ _ (fun g hg => by rw [hvb] at hg; cases hg) (fun _ => ⟨0, Nu.set_eq _ _ _⟩))
    | some g =>
      obtain ⟨cap, l, hv'⟩ := hshape g hvb
      have hg := hge g hvb
      have k1 : ∀ g', v'.ownBlock = some g' → ∃ c, (ν.set d ⟨some g, cap, szP P E⟩) d = some ⟨some g', c, szP P E⟩ ∧ ∃ l, v' = .slice (some ⟨g', 0, none⟩) l c := fun g' hg' => by
        rw [hvb] at hg'
        cases hg'
        exact ⟨cap, Nu.set_eq _ _ _, l, hv'⟩
      exact step ⟨some g, cap, szP P E⟩ (fun g' hg' => by cases hg'; exact hg) (hrow _ _ (fun g' hg' => ⟨fun i b hgb => by
        rw [hvb] at hg'
        cases hg'
        exact absurd (ghost_lt h.cells hgb) (by omega), k1 g' hg'⟩) (fun e => by rw [hvb] at e; cases e)) (hval _ _ k1 (fun e => by rw [hvb] at e; cases e))
  rcases hcase with ⟨c1, c2⟩ | ⟨c1, c2, c3⟩
  · cases hvb : (a.eval s).ownBlock with
    | none =>
      rw [hvb] at c1 c2
      exact grow c2 (fun g hg => by rw [c1] at hg; cases hg)
    | some g =>
      rcases hsrc with ⟨-, e⟩ | ⟨n, es', rfl, hb', hbo⟩
      · rw [hvb] at e; cases e
      rw [hvb] at c1 c2 hbo
      have hng := (h.blks n _ hb').lt hbo.symm
      obtain ⟨cap2, l, hv'⟩ := hshape g c1
      have hB : ∀ g', v'.ownBlock = some g' → ∃ c, (ν.set d ⟨some g, cap2, szP P E⟩) d = some ⟨some g', c, szP P E⟩ ∧ ∃ l, v' = .slice (some ⟨g', 0, none⟩) l c := fun g' hg' => by
        rw [c1] at hg'
        cases hg'
        exact ⟨cap2, Nu.set_eq _ _ _, l, hv'⟩
      have hnew := (h.drop n).new' (n := d) hu ⟨some g, cap2, szP P E⟩ (.row E (es ++ es2)) (w' := w') c2.os c2.tape c2.output c2.size (fun g' hg' hne => c2.block g' hg' (by simpa using Ne.symm (fun e => hne (by rw [e])))) (fun g' e => by
        cases e
        refine ⟨fun m hm hbm => ?_, h.own n g (by rw [hb']; rfl) hbo.symm, hng.2⟩
        have hmn : m ≠ n := by rintro rfl; simp [St.setB] at hm
        have hm' : (st.blk m).isSome = true := by simpa [St.setB, hmn] using hm
        exact hmn (h.inj m n g hm' (by rw [hb']; rfl) hbm hbo.symm)) (hrow _ _ (fun g' hg' => ⟨by rw [c1] at hg'; cases hg'; exact hng.2, hB g' hg'⟩) (fun e => by rw [c1] at e; cases e))
      refine fin _ _ hnew (hval _ _ hB (fun e => by rw [c1] at e; cases e)) (fun u => rfl) (fun m => ?_) (fun m => rfl)
      show (if m = d then _ else if m = n then none else st.blk m) = _
      by_cases e : m = d
      · simp [e]
      · by_cases e2 : m = n <;> simp [e, e2]
  · exact grow c2 (fun g hg => by rw [c1] at hg; cases hg; exact Nat.le_refl _)
end
end Go.Proofs.YtldnkeackphilaaGreatDoor.X
namespace Go.Proofs.YtldnkeackphilaaGreatDoor.X
open Go.RowKit

def asN : List (Nat × Nat) → Nat → Nat
  | [], n => n
  | p :: l, n => if n = p.1 then p.2 else asN l n
structure Hs (P : Program) (f : FuncId) (args : List AV) (H : List (Nat × Blk)) (a : AV) (K : List Nat) (H' : List (Nat × Blk)) : Prop where
  enters : ∀ vals w, (callFunc f vals).run P w = .ok (.enter f vals) w
  calls : ∀ G ν w (vals : Array Value), CellsR G w → (∀ p ∈ H, BlkR P G ν w p.1 p.2) → (∀ p ∈ H, ∀ q ∈ H, ∀ g, blkOf ν p.1 = some g → blkOf ν q.1 = some g → p.1 = q.1) → (∀ n, n ∉ H.map (·.1) → ν n = none) → vals.size = args.length → (∀ (i : Nat) v b, vals[i]? = some v → args[i]? = some b → RN G ν v b) →
    Calls P f vals w fun e w' => ∃ v G' ν', e = .returned v ∧ CellsR G' w' ∧ RN G' ν' v a ∧ (∀ p ∈ H', BlkR P G' ν' w' p.1 p.2) ∧ (∀ p ∈ H', ∀ q ∈ H', ∀ g, blkOf ν' p.1 = some g → blkOf ν' q.1 = some g → p.1 = q.1) ∧ (∀ n ∈ K, ν' n = ν n) ∧
      (∀ p ∈ H', ∀ g, blkOf ν' p.1 = some g → w.heap.size ≤ g ∨ ∃ q ∈ H, blkOf ν q.1 = some g) ∧ Frm ⟨G, w, fun g => ∃ q ∈ H, blkOf ν q.1 = some g, fun _ => none⟩ G' w'
def fit1 (a b : AV) : Prop := a = b ∨ fixA a = b
def fitL : List AV → List AV → Prop
  | [], [] => True
  | a :: l, b :: m => fit1 a b ∧ fitL l m
  | _, _ => False
def fitK : Blk → Blk → Prop
  | .box T cs, .box T' cs' => T = T' ∧ fitL cs cs'
  | .row E es, .row E' es' => E = E' ∧ es = es'
  | _, _ => False
def subset (l m : List Nat) : Bool := l.all fun n => m.contains n
structure CallH (P : Program) (st : St) (d : Nat) (f : FuncId) (as : List AV) (e : Eff) : Prop where
  ex : ∃ args H a K H' σ fr, Hs P f args H a K H' ∧ fitL as (renL (asN σ) args) ∧ (∀ p ∈ H, ∃ B, st.blk (asN σ p.1) = some B ∧ fitK B (renK (asN σ) p.2)) ∧ (H.map fun p => asN σ p.1).Nodup ∧ subset (refsL args ++ H.flatMap fun p => refsK p.2) (H.map (·.1)) = true ∧
    (∀ q ∈ fr, st.usd q.2 = false) ∧ (fr.map (·.2)).Nodup ∧ subset K (H.map (·.1)) = true ∧ (∀ q ∈ fr, q.1 ∉ K) ∧ subset (refsA a ++ (H'.flatMap fun p => refsK p.2) ++ H'.map (·.1)) (K ++ fr.map (·.1)) = true ∧ (fr.map (·.1)).Nodup ∧
    e = ⟨some d, renA (asN (fr ++ σ)) a, (H'.map fun p => (asN (fr ++ σ) p.1, some (renK (asN (fr ++ σ)) p.2))) ++ dropE (H.map fun p => asN σ p.1), fr.map (·.2)⟩
def CallE (P : Program) (st : St) (d : Nat) (f : FuncId) (as : List AV) (e : Eff) : Prop := CallP P st d f as e ∨ CallH P st d f as e
theorem rs_unren {G : Gh} {σ : Nat → Nat} {v : Value} {b : AV} (h : RS G v b) : ∀ {a : AV}, b = renA σ a → RS G v a := by
  induction h with
  | imm v h => intro a e; cases a <;> simp [renA] at e; subst e; exact .imm v h
  | nil => intro a e; cases a <;> simp [renA] at e; subst e; exact .nil
  | sl g o sz c es hsz hc hcell => intro a e; cases a <;> simp [renA] at e; subst e; exact .sl g o sz c es hsz hc hcell
  | ptr g o cs hcell => intro a e; cases a <;> simp [renA] at e; subst e; exact .ptr g o cs hcell
  | agg vs cs hl h1 _ ih =>
    intro a e
    cases a <;> simp [renA] at e
    subst e
    refine .agg vs _ (by rw [← hl.symm, renL_len]) h1 fun j v c hv hc => ih j v (renA σ c) hv (by rw [renL_get, hc]; rfl) rfl
  | tup vs cs hl _ ih =>
    intro a e
    cases a <;> simp [renA] at e
    subst e
    refine .tup vs _ (by rw [← hl.symm, renL_len]) fun j v c hv hc => ih j v (renA σ c) hv (by rw [renL_get, hc]; rfl) rfl
  | ifc t v a _ ih =>
    intro b e
    cases b <;> simp [renA] at e
    obtain ⟨rfl, e⟩ := e
    exact .ifc _ v _ (ih e)
theorem RN.unren {G : Gh} {ν ν' : Nu} {σ : Nat → Nat} {v : Value} {b : AV} (h : RN G ν v b) : ∀ {a : AV}, b = renA σ a → (∀ n ∈ refsA a, ∀ x, ν (σ n) = some x → ν' n = some x) → RN G ν' v a := by
  induction h with
  | sh h => exact fun e _ => .sh (rs_unren h e)
  | nl => intro a e _; cases a <;> simp [renA] at e; exact .nl
  | ref n off g cap sz h =>
    intro a e k
    cases a <;> simp [renA] at e
    obtain ⟨rfl, rfl⟩ := e
    exact .ref _ _ g cap sz (k _ (by simp [refsA]) _ h)
  | elt n i j g cap sz h =>
    intro a e k
    cases a <;> simp [renA] at e
    obtain ⟨rfl, rfl, rfl⟩ := e
    exact .elt _ _ _ g cap sz (k _ (by simp [refsA]) _ h)
  | rw n lo len g cap sz o h hc ho =>
    intro a e k
    cases a <;> simp [renA] at e
    obtain ⟨rfl, rfl, rfl⟩ := e
    exact .rw _ _ _ g cap sz o (k _ (by simp [refsA]) _ h) hc ho
  | rw0 n cap sz h =>
    intro a e k
    cases a <;> simp [renA] at e
    obtain ⟨rfl, rfl, rfl⟩ := e
    exact .rw0 _ cap sz (k _ (by simp [refsA]) _ h)
  | agg vs cs hl h1 _ ih =>
    intro a e k
    cases a <;> simp [renA] at e
    subst e
    refine .agg vs _ (by rw [← hl.symm, renL_len]) h1 fun j v c hv hc => ih j v (renA σ c) hv (by rw [renL_get, hc]; rfl) rfl fun n hn => k n (by simp only [refsA]; exact refsL_get hc n hn)
  | tup vs cs hl _ ih =>
    intro a e k
    cases a <;> simp [renA] at e
    subst e
    refine .tup vs _ (by rw [← hl.symm, renL_len]) fun j v c hv hc => ih j v (renA σ c) hv (by rw [renL_get, hc]; rfl) rfl fun n hn => k n (by simp only [refsA]; exact refsL_get hc n hn)
  | ifc t v a _ ih =>
    intro b e k
    cases b <;> simp [renA] at e
    obtain ⟨rfl, e⟩ := e
    exact .ifc _ v _ (ih e fun n hn => k n (by simpa [refsA] using hn))
  | fnc f vs cs hl _ ih =>
    intro a e k
    cases a <;> simp [renA] at e
    obtain ⟨rfl, e⟩ := e
    subst e
    refine .fnc _ vs _ (by rw [← hl.symm, renL_len]) fun j v c hv hc => ih j v (renA σ c) hv (by rw [renL_get, hc]; rfl) rfl fun n hn => k n (by simp only [refsA]; exact refsL_get hc n hn)
theorem subset_mem {l m : List Nat} (h : subset l m = true) {n : Nat} (hn : n ∈ l) : n ∈ m := by
  have := List.all_eq_true.1 h n hn
  simpa using this
section
variable {P : Program} {N : Nat} {C : Cx} {G : Gh} {ν : Nu} {w : World} {tm : Array Value} {st : St}
theorem fit_cells : ∀ {cs cs' : List AV}, fitL cs cs' → cs.length = cs'.length ∧ ∀ (j : Nat) v b, (∀ a, cs[j]? = some a → RN G ν v a) → cs'[j]? = some b → RN G ν v b
  | [], [], _ => ⟨rfl, fun j v b _ hb => by simp at hb⟩
  | a :: l, b :: m, h => by
    obtain ⟨h1, h2⟩ := h
    obtain ⟨k1, k2⟩ := fit_cells h2
    refine ⟨by simp [k1], fun j v c ha hc => ?_⟩
    cases j with
    | zero =>
      simp at hc
      subst hc
      have := ha a rfl
      rcases h1 with rfl | rfl
      · exact this
      · exact this.fix
    | succ j => exact k2 j v c (fun a' h' => ha a' (by simpa using h')) (by simpa using hc)
  | [], _ :: _, h => h.elim
  | _ :: _, [], h => h.elim
theorem BlkR.fit {n : Nat} {B B' : Blk} (h : BlkR P G ν w n B) (hf : fitK B B') : BlkR P G ν w n B' := by
  cases B with
  | box T cs =>
    cases B' with
    | box T' cs' =>
      obtain ⟨rfl, hf⟩ := hf
      obtain ⟨g, cap, sz, h1, h2, vs, h3, h4, h5⟩ := h
      obtain ⟨k1, k2⟩ := fit_cells (G := G) (ν := ν) hf
      refine ⟨g, cap, sz, h1, h2, vs, h3, h4.trans k1, fun j v b hv hb => ?_⟩
      have hj : j < cs.length := by rw [k1]; exact (List.getElem?_eq_some_iff.1 hb).1
      refine ⟨(h5 j v _ hv (List.getElem?_eq_getElem hj)).1, k2 j v b (fun a ha => (h5 j v a hv ha).2) hb⟩
    | row => exact hf.elim
  | row E es =>
    cases B' with
    | row E' es' => obtain ⟨rfl, rfl⟩ := hf; exact h
    | box => exact hf.elim
theorem BlkR.unren {σ : Nat → Nat} {n : Nat} {B : Blk} {ν' : Nu} (h : BlkR P G ν w (σ n) (renK σ B)) (hn : ν' n = ν (σ n)) (hk : ∀ m ∈ refsK B, ∀ x, ν (σ m) = some x → ν' m = some x) : BlkR P G ν' w n B := by
  cases B with
  | box T cs =>
    obtain ⟨g, cap, sz, h1, h2, vs, h3, h4, h5⟩ := h
    refine ⟨g, cap, sz, hn.trans h1, h2, vs, h3, by rw [h4, renL_len], fun j v b hv hb => ?_⟩
    obtain ⟨k1, k2⟩ := h5 j v (renA σ b) hv (by rw [renL_get, hb]; rfl)
    exact ⟨k1, k2.unren rfl fun m hm => hk m (refsL_get hb m hm)⟩
  | row E es =>
    obtain ⟨h0, h⟩ := h
    refine ⟨h0, ?_⟩
    rcases h with ⟨cap, h1, h2⟩ | ⟨g, cap, h1, h2⟩
    · exact .inl ⟨cap, hn.trans h1, h2⟩
    · exact .inr ⟨g, cap, hn.trans h1, h2⟩
theorem BlkR.ren {τ : Nat → Nat} {n : Nat} {B : Blk} {ν' : Nu} (h : BlkR P G ν w n B) (hn : ν' (τ n) = ν n) (hk : ∀ m ∈ refsK B, ∀ x, ν m = some x → ν' (τ m) = some x) : BlkR P G ν' w (τ n) (renK τ B) := by
  cases B with
  | box T cs =>
    obtain ⟨g, cap, sz, h1, h2, vs, h3, h4, h5⟩ := h
    refine ⟨g, cap, sz, hn.trans h1, h2, vs, h3, by rw [h4, renL_len], fun j v b hv hb => ?_⟩
    rw [renL_get] at hb
    obtain ⟨c, hc, rfl⟩ := Option.map_eq_some_iff.1 hb
    obtain ⟨k1, k2⟩ := h5 j v c hv hc
    exact ⟨k1, k2.ren fun m hm => hk m (refsL_get hc m hm)⟩
  | row E es =>
    obtain ⟨h0, h⟩ := h
    refine ⟨h0, ?_⟩
    rcases h with ⟨cap, h1, h2⟩ | ⟨g, cap, h1, h2⟩
    · exact .inl ⟨cap, hn.trans h1, h2⟩
    · exact .inr ⟨g, cap, hn.trans h1, h2⟩
theorem row_sound {a : Act} {o : Oper} {K : Act → World → Prop} {QQ : Exit → Act → World → Prop} {d n : Nat} {T E : TypeId} {parts : Array (Nat × Operand)} {ns : List Nat} (hds : a.defers = []) (h0 : Inv P N C G ν w a.tmps st) (hdst : o.dst = some d)
    (hop : o.op = .buildSlice T n parts) (hd : d < N) (hu : st.usd d = false) (hE : elemP P T = some E) (hok : frzOk st.blk ns) (hp : ∀ p ∈ parts.toList, st.ok true p.2 ∧ (st.get p.2).whole = true ∧ pureA (frzF st.blk ns (st.get p.2)) = true ∧ (fixA (frzF st.blk ns (st.get p.2))).cells.length = szP P E)
    (hsz : n * szP P E ≤ 16777216) (hn : n ≤ 16777216) (hz : zokP P E = true) (hr : parts.toList.map (·.1) = List.range n)
    (hK : Cont P N C K (st.app ⟨some d, .rw d 0 n, (d, some (.row E (parts.toList.map fun p => (fixA (frzF st.blk ns (st.get p.2))).cells))) :: dropE ns, [d]⟩)) : o.wp P a w K QQ := by
  have hu' := elem_und hE
  obtain ⟨G1, h, hle, hsub⟩ := h0.frzS ns hok
  obtain ⟨z, hz, hzs, hz1⟩ : ∃ z, zeroP P E = some z ∧ z.cells.size = szP P E ∧ z.cells.all (·.oneCell') = true := by rw [zok_eq]; exact hz
  obtain ⟨i, hi⟩ : ∃ i, P.info? E = some i := by
    cases hi : P.info? E with
    | none => simp [zeroP, hi] at hz
    | some i => exact ⟨i, rfl⟩
  have hsi : szP P E = i.size := by simp [szP, hi]
  have hzz : i.zero = some z := by simpa [zeroP, hi] using hz
  have hlen : parts.size = n := by
    have := congrArg List.length hr
    simpa using this
  let zc : Array Value := if n * i.size = 0 then #[] else z.cells
  let init : Array Value := (Array.range (n * i.size)).map (zc[· % zc.size]!)
  obtain ⟨cells, f1, f2, -, f4⟩ := fill_row (P := P) (G := G1) (sz := i.size) (parts.map fun (i, x) => (i, a.eval x)).toList (parts.toList.map fun p => (fixA (frzF st.blk ns (st.get p.2))).cells) 0 n init (by simp [hlen]) (by simp) (by simp [init]) (fun j p hj => by
    simp only [Array.toList_map, List.getElem?_map] at hj
    have hj2 := congrArg (fun l : List Nat => l[j]?) hr
    simp only [List.getElem?_map] at hj2
    cases hq : parts.toList[j]? with
    | none => rw [hq] at hj; cases hj
    | some q =>
      rw [hq] at hj hj2
      have hjn : j < n := by rw [← hlen]; simpa using (List.getElem?_eq_some_iff.1 hq).1
      simp [hjn] at hj hj2
      rw [← hj]
      simp [hj2]) (fun j p e hj he => by
    simp only [Array.toList_map, List.getElem?_map] at hj he
    cases hq : parts.toList[j]? with
    | none => rw [hq] at hj; cases hj
    | some q =>
      rw [hq] at hj he
      simp only [Option.map_some, Option.some.injEq] at hj he
      subst hj he
      obtain ⟨q1, q2, q3, q4⟩ := hp q (by simpa using List.mem_of_getElem? hq)
      have hv0 := get_sound h0 rfl q1
      have hv := (hsub _ _ hv0).toRS q3
      obtain ⟨c1, c2⟩ := hv.cells (fixA_whole ((hsub _ _ hv0).ofTup (hv0.noTup q2)))
      exact ⟨by rw [q4, hsi], by rw [c1, q4, hsi], fun k u b hu hb => ⟨(c2 k u b hu hb).2, (c2 k u b hu hb).1⟩⟩)
  have hrun : (execOp a.eval o).run P w = .ok (.value (.slice (some ⟨w.heap.size, 0, none⟩) n n)) (w.alloc (.cells cells E)) := by
    obtain ⟨dst, op, ty, pos, aft, gd⟩ := o
    simp only at hop
    subst hop
    have hle : ¬ (16777216 < n * i.size) := by rw [← hsi]; omega
    have f1' : Instr.fill (fun j => some (j * i.size, i.size)) ((Array.range (n * i.size)).map (zc[· % zc.size]!)) (parts.map fun (i, x) => (i, a.eval x)).toList = some cells := f1
    simp only [execOp, Instr.buildSlice, Sem.run_bind, run_underlying hu', Result.andThen_ok, sizeOf, typeInfo, run_program, hi, Sem.run_pure]
    rw [if_neg hle]
    by_cases h0 : n * i.size = 0
    · rw [show zc = #[] by simp [zc, h0]] at f1'
      rw [if_pos h0]
      simp only [Sem.run_bind, Sem.run_pure, Result.andThen_ok]
      rw [f1']
      simp [newRow]
    · rw [show zc = z.cells by simp [zc, h0]] at f1'
      rw [if_neg h0]
      simp only [Sem.run_bind, Sem.run_pure, Result.andThen_ok, zeroValue, typeInfo, run_program, hi, hzz]
      rw [f1']
      simp [newRow]
  refine wp_val hrun ?_
  rw [hdst]
  have hes : (parts.toList.map fun p => (fixA (frzF st.blk ns (st.get p.2))).cells).length = n := by simp [hlen]
  have hall : ∀ e ∈ (parts.toList.map fun p => (fixA (frzF st.blk ns (st.get p.2))).cells), e.length = szP P E := fun e he => by
    obtain ⟨q, hq, rfl⟩ := List.mem_map.1 he
    exact (hp q (by simpa using hq)).2.2.2
  have husd : (st.drops ns).usd d = false := by rw [(drops_is ns st).2.1]; exact hu
  have hnew := h.new husd ⟨some w.heap.size, n, szP P E⟩ (.row E (parts.toList.map fun p => (fixA (frzF st.blk ns (st.get p.2))).cells)) (w' := w.alloc (.cells cells E)) rfl rfl rfl (by simp) (fun g hg => Below.heap_alloc _ _ _ hg) (fun g hg => by cases hg; exact Nat.le_refl _)
    ⟨hall, .inr ⟨w.heap.size, n, Nu.set_eq _ _ _, fun i b hg => absurd (ghost_lt h.cells hg) (Nat.lt_irrefl _), by omega, by unfold maxLen; omega, cells, heap_alloc_new _ _, by rw [f2, hsi], fun j v b hv hb => f4 j v b (by simpa using hv) hb⟩⟩
  have hfin := hnew.putv hd (v := .slice (some ⟨w.heap.size, 0, none⟩) n n) (a := .rw d 0 n) (.x (.rw d 0 n w.heap.size n (szP P E) 0 (Nu.set_eq _ _ _) (by omega) (fun _ => by simp)))
  refine hK (a.put (some d) (.slice (some ⟨w.heap.size, 0, none⟩) n n)) _ G1 (ν.set d ⟨some w.heap.size, n, szP P E⟩) hds ?_
  show Inv P N C G1 _ _ _ ((((st.setL (dropE ns)).setB d _).use d).putv d _)
  rw [drops_eq]
  exact hfin
theorem Inv.called (h : Inv P N C G ν w tm st) {G' : Gh} {w' : World} (hc : CellsR G' w') (h1 : w'.os = w.os) (h2 : w'.tape = w.tape) (h3 : w'.output = w.output) (hsz : w.heap.size ≤ w'.heap.size) (hle : Gle G G') (hold : ∀ g, g < w.heap.size → w'.heap[g]? = w.heap[g]? ∧ G' g = G g) : Inv P N C G' ν w' tm st :=
  ⟨h.size, hc, fun t => (h.vals t).mono hle (.refl _), fun n B hB => (h.blks n B hB).keep hle (.refl _) fun g hg => hold g ((h.blks n B hB).lt hg).1, h.inj, h.news, h.own,
    ⟨h1.trans h.fr.os, h2.trans h.fr.tape, h3.trans h.fr.output, Nat.le_trans h.fr.size hsz, h.fr.le.trans hle, fun g k1 k2 => by
      obtain ⟨q1, q2⟩ := h.fr.old g k1 k2
      obtain ⟨r1, r2⟩ := hold g (Nat.lt_of_lt_of_le k1 h.fr.size)
      exact ⟨r1.trans q1, r2.trans q2⟩⟩, h.kpt⟩
theorem callP_sound {a : Act} {o : Oper} {K : Act → World → Prop} {QQ : Exit → Act → World → Prop} {d : Nat} {f : FuncId} {vals : Array Value} {as : List AV} {e : Eff} (hds : a.defers = []) (h0 : Inv P N C G ν w a.tmps st) (hdst : o.dst = some d) (hd : d < N)
    (hop : execOp a.eval o = callFunc f vals) (hl : vals.size = as.length) (hv : ∀ (i : Nat) v b, vals[i]? = some v → as[i]? = some b → RN G ν v b) (hc : CallP P st d f as e) (hK : Cont P N C K (st.app e)) : o.wp P a w K QQ := by
  obtain ⟨ns, b, rt, hok, hp, hf, hsh, rfl⟩ := hc.ex
  obtain ⟨G1, h, hle, hsub⟩ := h0.frzS ns hok
  have hrun : (execOp a.eval o).run P w = .ok (.enter f vals) w := by rw [hop]; exact hf.enters vals w
  unfold Oper.wp
  rw [hrun, Oper.upon_enter, hdst]
  refine (hf.calls G1 w vals h.cells (by rw [fixL_len]; simpa using hl) (fun i v b' hvi hb => ?_)).mono ?_
  · rw [fixL_get, List.getElem?_map] at hb
    cases hai : as[i]? with
    | none => rw [hai] at hb; cases hb
    | some x =>
      rw [hai] at hb
      simp only [Option.map_some, Option.some.injEq] at hb
      subst hb
      refine (hsub _ _ (hv i v x hvi hai)).toRS (pureL_get hp (j := i) ?_)
      rw [List.getElem?_map, hai]
      rfl
  · rintro e w' ⟨v, G', O', rfl, r1, r2⟩
    have hcal := h.called r1.cells r2.os r2.tape r2.output r2.size r2.le (fun g hg => ⟨(r2.old g hg rfl).1, (r2.old g hg rfl).2.1⟩)
    have hval := r1.vals 0
    have hx : (#[v] : Array Value).getD 0 undef = v := rfl
    rw [hx, show (St.one b rt).val 0 = b from rfl] at hval
    have hfin := hcal.putv hd (v := v) (a := b) (.x (.sh (hval.rs hsh)))
    refine hK (a.put (some d) v) w' G' ν hds ?_
    show Inv P N C G' ν w' _ ((st.setL (dropE ns)).putv d b)
    rw [drops_eq]
    exact hfin
end
end Go.Proofs.YtldnkeackphilaaGreatDoor.X
namespace Go.Proofs.YtldnkeackphilaaGreatDoor.X
open Go.RowKit

theorem asN_app (l m : List (Nat × Nat)) (n : Nat) : asN (l ++ m) n = if n ∈ l.map (·.1) then asN l n else asN m n := by
  induction l with
  | nil => simp
  | cons p l ih =>
    simp only [List.cons_append, asN, List.map_cons, List.mem_cons]
    by_cases e : n = p.1
    · simp [e]
    · rw [if_neg e, ih, if_neg e]
      by_cases e2 : n ∈ List.map (fun x => x.fst) l
      · rw [if_pos e2, if_pos (.inr e2)]
      · rw [if_neg e2, if_neg (fun h => h.elim e e2)]
theorem asN_mem {l : List (Nat × Nat)} {n : Nat} (h : n ∈ l.map (·.1)) : ∃ q ∈ l, q.1 = n ∧ asN l n = q.2 := by
  induction l with
  | nil => simp at h
  | cons p l ih =>
    simp only [asN]
    by_cases e : n = p.1
    · exact ⟨p, by simp, e.symm, by simp [e]⟩
    · simp only [List.map_cons, List.mem_cons] at h
      obtain ⟨q, h1, h2, h3⟩ := ih (h.resolve_left e)
      exact ⟨q, by simp [h1], h2, by rw [if_neg e]; exact h3⟩
theorem setL_is (st : St) : ∀ l : List (Nat × Option Blk), (st.setL l).val = st.val ∧ (st.setL l).usd = st.usd ∧ (∀ m, m ∉ l.map (·.1) → (st.setL l).blk m = st.blk m) ∧ ∀ m b, (st.setL l).blk m = some b → (m, some b) ∈ l ∨ (m ∉ l.map (·.1) ∧ st.blk m = some b)
  | [] => ⟨rfl, rfl, fun _ _ => rfl, fun m b h => .inr ⟨by simp, h⟩⟩
  | p :: l => by
    obtain ⟨h1, h2, h3, h4⟩ := setL_is st l
    refine ⟨h1, h2, fun m hm => ?_, fun m b h => ?_⟩
    · simp only [List.map_cons, List.mem_cons, not_or] at hm
      show (if m = p.1 then p.2 else (st.setL l).blk m) = _
      rw [if_neg hm.1]
      exact h3 m hm.2
    · have h : (if m = p.1 then p.2 else (st.setL l).blk m) = some b := h
      by_cases e : m = p.1
      · rw [if_pos e] at h
        exact .inl (by rw [e, ← h]; simp)
      · rw [if_neg e] at h
        rcases h4 m b h with h | ⟨h, h'⟩
        · exact .inl (by simp [h])
        · exact .inr ⟨by simp [e]; simpa using h, h'⟩
theorem useL_is (st : St) : ∀ l : List Nat, (st.useL l).val = st.val ∧ (st.useL l).blk = st.blk ∧ ∀ m, (st.useL l).usd m = (l.contains m || st.usd m)
  | [] => ⟨rfl, rfl, fun m => by simp [St.useL]⟩
  | n :: l => by
    obtain ⟨h1, h2, h3⟩ := useL_is st l
    refine ⟨h1, h2, fun m => ?_⟩
    show (m == n || (st.useL l).usd m) = _
    rw [h3, List.contains_cons, Bool.or_assoc]
section
variable {P : Program} {N : Nat} {C : Cx} {G : Gh} {ν : Nu} {w : World} {tm : Array Value} {st : St}
theorem callH_sound {a : Act} {o : Oper} {K : Act → World → Prop} {QQ : Exit → Act → World → Prop} {d : Nat} {f : FuncId} {vals : Array Value} {as : List AV} {e : Eff} (hds : a.defers = []) (h : Inv P N C G ν w a.tmps st) (hdst : o.dst = some d) (hd : d < N)
    (hop : execOp a.eval o = callFunc f vals) (hl : vals.size = as.length) (hv : ∀ (i : Nat) v b, vals[i]? = some v → as[i]? = some b → RN G ν v b) (hc : CallH P st d f as e) (hK : Cont P N C K (st.app e)) : o.wp P a w K QQ := by
  obtain ⟨args, H, b, Kn, H', σ, fr, hf, harg, hblk, hnd, hcl, hfu, hfn, hKH, hfK, hcl', hfd, rfl⟩ := hc.ex
  -- the callee's names
  let ν1 : Nu := fun n => if n ∈ H.map (·.1) then ν (asN σ n) else none
  have hν1 : ∀ n, n ∈ H.map (·.1) → ν1 n = ν (asN σ n) := fun n hn => by simp only [ν1, hn, if_true]
  have hσinj : ∀ p ∈ H, ∀ q ∈ H, asN σ p.1 = asN σ q.1 → p = q := by
    intro p hp q hq e
    have : ∀ l : List (Nat × Blk), (l.map fun p => asN σ p.1).Nodup → p ∈ l → q ∈ l → p = q := by
      intro l
      induction l with
      | nil => intro _ h; cases h
      | cons r l ih =>
        intro hnd hp hq
        simp only [List.map_cons, List.nodup_cons, List.mem_map, not_exists, not_and] at hnd
        rcases List.mem_cons.1 hp with hp' | hp'
        · rcases List.mem_cons.1 hq with hq' | hq'
          · rw [hp', hq']
          · subst hp'; exact absurd e.symm (hnd.1 q hq')
        · rcases List.mem_cons.1 hq with hq' | hq'
          · subst hq'; exact absurd e (hnd.1 p hp')
          · exact ih hnd.2 hp' hq'
    exact this H hnd hp hq
  have hpre : ∀ p ∈ H, BlkR P G ν1 w p.1 p.2 := fun p hp => by
    obtain ⟨B, hB, hfit⟩ := hblk p hp
    have hpm : p.1 ∈ H.map (·.1) := List.mem_map_of_mem hp
    refine (((h.blks _ B hB).fit hfit).unren (hν1 _ hpm)) fun m hm x hx => ?_
    rw [hν1 m (subset_mem hcl (by simp only [List.mem_append, List.mem_flatMap]; exact .inr ⟨p, hp, hm⟩))]
    exact hx
  have hbo : ∀ p ∈ H, blkOf ν1 p.1 = blkOf ν (asN σ p.1) := fun p hp => by simp only [blkOf, hν1 _ (List.mem_map_of_mem hp)]
  have hpres : ∀ p ∈ H, (st.blk (asN σ p.1)).isSome = true := fun p hp => by obtain ⟨B, hB, -⟩ := hblk p hp; rw [hB]; rfl
  have hrun : (execOp a.eval o).run P w = .ok (.enter f vals) w := by rw [hop]; exact hf.enters vals w
  unfold Oper.wp
  rw [hrun, Oper.upon_enter, hdst]
  have hla : vals.size = args.length := by
    have := (fit_cells (G := G) (ν := ν) harg).1
    rw [renL_len] at this
    rw [hl, this]
  refine (hf.calls G ν1 w vals h.cells hpre (fun p hp q hq g e1 e2 => by
    rw [hbo p hp] at e1
    rw [hbo q hq] at e2
    exact congrArg Prod.fst (hσinj p hp q hq (h.inj _ _ g (hpres p hp) (hpres q hq) e1 e2))) (fun n hn => by simp only [ν1, hn, if_false]) hla (fun i v c hvi hci => ?_)).mono ?_
  · have hri : (renL (asN σ) args)[i]? = some (renA (asN σ) c) := by rw [renL_get, hci]; rfl
    have := (fit_cells (G := G) (ν := ν) harg).2 i v _ (fun a ha => hv i v a hvi ha) hri
    refine this.unren rfl fun n hn x hx => ?_
    rw [hν1 n (subset_mem hcl (by simp only [List.mem_append]; exact .inl (refsL_get hci n hn)))]
    exact hx
  · rintro e w' ⟨v, G', ν2, rfl, r1, r2, r3, r4, r5, r6, r7⟩
    let τ := asN (fr ++ σ)
    have hτ1 : ∀ n ∈ fr.map (·.1), ∃ q ∈ fr, q.1 = n ∧ τ n = q.2 := fun n hn => by
      obtain ⟨q, q1, q2, q3⟩ := asN_mem hn
      exact ⟨q, q1, q2, by simp only [τ, asN_app, hn, if_true]; exact q3⟩
    have hτ2 : ∀ n ∈ Kn, τ n = asN σ n := fun n hn => by
      have : n ∉ fr.map (·.1) := fun hc => by
        obtain ⟨q, q1, q2⟩ := List.mem_map.1 hc
        exact hfK q q1 (q2 ▸ hn)
      simp only [τ, asN_app, this, if_false]
    -- the caller's names behind the call
    let ν3 : Nu := fun m => match fr.find? (fun q => q.2 == m) with
      | some q => ν2 q.1
      | none => ν m
    have hfind : ∀ q ∈ fr, fr.find? (fun r => r.2 == q.2) = some q := by
      have : ∀ l : List (Nat × Nat), (l.map (·.2)).Nodup → ∀ q ∈ l, l.find? (fun r => r.2 == q.2) = some q := by
        intro l
        induction l with
        | nil => intro _ q hq; cases hq
        | cons r l ih =>
          intro hnd q hq
          simp only [List.map_cons, List.nodup_cons] at hnd
          rcases List.mem_cons.1 hq with rfl | hq
          · simp
          · have hne : r.2 ≠ q.2 := fun e => hnd.1 (e ▸ List.mem_map_of_mem hq)
            rw [List.find?_cons_of_neg (by simpa using hne)]
            exact ih hnd.2 q hq
      exact this fr hfn
    have hν3a : ∀ q ∈ fr, ν3 q.2 = ν2 q.1 := fun q hq => by simp only [ν3, hfind q hq]
    have hν3b : ∀ m, m ∉ fr.map (·.2) → ν3 m = ν m := fun m hm => by
      have : fr.find? (fun q => q.2 == m) = none := by
        rw [List.find?_eq_none]
        intro q hq e
        exact hm (by simp only [beq_iff_eq] at e; exact e ▸ List.mem_map_of_mem hq)
      simp only [ν3, this]
    have hx : Ext ν ν3 := fun m x e => by
      rw [hν3b m fun hm => ?_]
      · exact e
      · obtain ⟨q, q1, q2⟩ := List.mem_map.1 hm
        have := (h.none_of (hfu q q1)).1
        rw [q2, e] at this
        cases this
    have hKσ : ∀ n ∈ Kn, ∃ p ∈ H, p.1 = n := fun n hn => by
      obtain ⟨p, p1, p2⟩ := List.mem_map.1 (subset_mem hKH hn)
      exact ⟨p, p1, p2⟩
    have hν3 : ∀ n, n ∈ Kn ++ fr.map (·.1) → ν3 (τ n) = ν2 n := fun n hn => by
      rcases List.mem_append.1 hn with hn | hn
      · obtain ⟨p, hp, rfl⟩ := hKσ n hn
        rw [hτ2 _ hn, hν3b, r5 _ hn, hν1 _ (List.mem_map_of_mem hp)]
        intro hm
        obtain ⟨q, q1, q2⟩ := List.mem_map.1 hm
        have := (h.none_of (hfu q q1)).2
        have hs := hpres p hp
        rw [q2] at this
        rw [this] at hs
        cases hs
      · obtain ⟨q, q1, q2, q3⟩ := hτ1 n hn
        rw [q3, hν3a q q1, q2]
    have hH' : ∀ p ∈ H', p.1 ∈ Kn ++ fr.map (·.1) := fun p hp => subset_mem hcl' (by simp only [List.mem_append]; exact .inr (List.mem_map_of_mem hp))
    have hrefB : ∀ p ∈ H', ∀ m ∈ refsK p.2, m ∈ Kn ++ fr.map (·.1) := fun p hp m hm => subset_mem hcl' (by simp only [List.mem_append, List.mem_flatMap]; exact .inl (.inr ⟨p, hp, hm⟩))
    -- names of the post state
    let st1 := st.setL ((H'.map fun p => (τ p.1, some (renK τ p.2))) ++ dropE (H.map fun p => asN σ p.1))
    have hst1 := setL_is st ((H'.map fun p => (τ p.1, some (renK τ p.2))) ++ dropE (H.map fun p => asN σ p.1))
    have hcase : ∀ m B, st1.blk m = some B → (∃ p ∈ H', m = τ p.1 ∧ B = renK τ p.2) ∨ (st.blk m = some B ∧ (∀ p ∈ H, m ≠ asN σ p.1)) := fun m B hB => by
      rcases hst1.2.2.2 m B hB with hm | ⟨hm, hm'⟩
      · rcases List.mem_append.1 hm with hm | hm
        · obtain ⟨p, p1, p2⟩ := List.mem_map.1 hm
          simp only [Prod.mk.injEq, Option.some.injEq] at p2
          exact .inl ⟨p, p1, p2.1.symm, p2.2.symm⟩
        · unfold dropE at hm
          obtain ⟨p, p1, p2⟩ := List.mem_map.1 hm
          simp at p2
      · refine .inr ⟨hm', fun p hp e => hm ?_⟩
        simp only [List.map_append, List.mem_append, dropE, List.map_map, List.mem_map, Function.comp]
        exact .inr ⟨p, hp, e.symm⟩
    have hold : ∀ m B, st.blk m = some B → (∀ p ∈ H, m ≠ asN σ p.1) → ∀ g, blkOf ν m = some g → g < w.heap.size ∧ ¬ (∃ q ∈ H, blkOf ν1 q.1 = some g) := fun m B hB hm g hg => by
      refine ⟨((h.blks m B hB).lt hg).1, ?_⟩
      rintro ⟨q, hq, hqg⟩
      rw [hbo q hq] at hqg
      exact hm q hq (h.inj m _ g (by rw [hB]; rfl) (hpres q hq) hg hqg)
    have hm3 : ∀ m B, st.blk m = some B → ν3 m = ν m := fun m B hB => hν3b m fun hm => by
      obtain ⟨q, q1, q2⟩ := List.mem_map.1 hm
      have := (h.none_of (hfu q q1)).2
      rw [q2, hB] at this
      cases this
    have hinv : Inv P N C G' ν3 w' a.tmps (st1.useL (fr.map (·.2))) := by
      obtain ⟨u1, u2, u3⟩ := useL_is st1 (fr.map (·.2))
      refine ⟨h.size, r1, fun t => ?_, fun m B hB => ?_, fun m m' g hm hm' e1 e2 => ?_, fun m hm => ?_, fun m g hm e => ?_, ?_, fun m y e => hx m y (h.kpt m y e)⟩
      · rw [u1, hst1.1]
        exact (h.vals t).mono r7.le hx
      · rw [u2] at hB
        rcases hcase m B hB with ⟨p, hp, rfl, rfl⟩ | ⟨hB', hm⟩
        · refine (r3 p hp).ren (hν3 _ (hH' p hp)) fun k hk x hkx => ?_
          rw [hν3 k (hrefB p hp k hk)]
          exact hkx
        · refine (h.blks m B hB').keep r7.le hx fun g hg => ?_
          obtain ⟨q1, q2⟩ := hold m B hB' hm g hg
          exact r7.old g q1 q2
      · rw [u2] at hm hm'
        obtain ⟨B, hB⟩ := Option.isSome_iff_exists.1 hm
        obtain ⟨B', hB'⟩ := Option.isSome_iff_exists.1 hm'
        have key : ∀ m B, st1.blk m = some B → blkOf ν3 m = some g → (∃ p ∈ H', m = τ p.1 ∧ blkOf ν2 p.1 = some g) ∨ (st.blk m = some B ∧ (∀ p ∈ H, m ≠ asN σ p.1) ∧ blkOf ν m = some g) := fun m B hB e => by
          rcases hcase m B hB with ⟨p, hp, rfl, rfl⟩ | ⟨hB', hm⟩
          · exact .inl ⟨p, hp, rfl, by simpa only [blkOf, hν3 _ (hH' p hp)] using e⟩
          · exact .inr ⟨hB', hm, by simpa only [blkOf, hm3 m B hB'] using e⟩
        rcases key m B hB e1 with ⟨p, hp, rfl, k1⟩ | ⟨k1, k2, k3⟩ <;> rcases key m' B' hB' e2 with ⟨q, hq, rfl, l1⟩ | ⟨l1, l2, l3⟩
        · rw [r4 p hp q hq g k1 l1]
        · exfalso
          obtain ⟨q1, q2⟩ := hold m' B' l1 l2 g l3
          rcases r6 p hp g k1 with h | h
          · omega
          · exact q2 h
        · exfalso
          obtain ⟨q1, q2⟩ := hold m B k1 k2 g k3
          rcases r6 q hq g l1 with h | h
          · omega
          · exact q2 h
        · exact h.inj m m' g (by rw [k1]; rfl) (by rw [l1]; rfl) k3 l3
      · rw [u3, Bool.or_eq_false_iff, hst1.2.1] at hm
        rw [hν3b m (by simpa using hm.1)]
        exact h.news m hm.2
      · rw [u2] at hm
        obtain ⟨B, hB⟩ := Option.isSome_iff_exists.1 hm
        rcases hcase m B hB with ⟨p, hp, rfl, rfl⟩ | ⟨hB', hm'⟩
        · have e : blkOf ν2 p.1 = some g := by simpa only [blkOf, hν3 _ (hH' p hp)] using e
          rcases r6 p hp g e with hge | ⟨q, hq, hqg⟩
          · exact .inl (Nat.le_trans h.fr.size hge)
          · rw [hbo q hq] at hqg
            exact h.own _ g (hpres q hq) hqg
        · have e : blkOf ν m = some g := by simpa only [blkOf, hm3 m B hB'] using e
          exact h.own m g (by rw [hB']; rfl) e
      · refine ⟨r7.os.trans h.fr.os, r7.tape.trans h.fr.tape, r7.output.trans h.fr.output, Nat.le_trans h.fr.size r7.size, h.fr.le.trans r7.le, fun g k1 k2 => ?_⟩
        obtain ⟨q1, q2⟩ := h.fr.old g k1 k2
        obtain ⟨s1, s2⟩ := r7.old g (Nat.lt_of_lt_of_le k1 h.fr.size) (by
          rintro ⟨q, hq, hqg⟩
          rw [hbo q hq] at hqg
          rcases h.own _ g (hpres q hq) hqg with h | h
          · omega
          · exact k2 h)
        exact ⟨s1.trans q1, s2.trans q2⟩
    have hres : RN G' ν3 v (renA τ b) := r2.ren fun n hn x hnx => by
      rw [hν3 n (subset_mem hcl' (by simp only [List.mem_append]; exact .inl (.inl hn)))]
      exact hnx
    exact hK (a.put (some d) v) w' G' ν3 hds (hinv.putv hd (.x hres))
end
end Go.Proofs.YtldnkeackphilaaGreatDoor.X
