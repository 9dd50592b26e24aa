/- The calculus of values: rows that are made and appended to, boxes that are written. -/
import Derived.Deep.MidRow
import Derived.Test.YtldnkeackphilaaGreatDoorNs1
set_option linter.unusedSimpArgs false
set_option linter.unusedVariables false
namespace Go.Proofs.YtldnkeackphilaaGreatDoor
open Go.RowKit

def gset (G : Gh) (g : Nat) (f : Nat → Option AV) : Gh := fun g' i a => G g' i a ∨ (g' = g ∧ f i = some a)
theorem gset_eq (G : Gh) (g : Nat) (f : Nat → Option AV) (i : Nat) (a : AV) : gset G g f g i a = (G g i a ∨ f i = some a) := by simp [gset]
theorem gset_fresh {G : Gh} {g : Nat} (h : ∀ i a, ¬ G g i a) (f : Nat → Option AV) (i : Nat) (a : AV) : gset G g f g i a = (f i = some a) := by simp [gset, h i a]
theorem gset_le (G : Gh) (g : Nat) (f : Nat → Option AV) : Gle G (gset G g f) := ⟨fun _ _ _ h => .inl h⟩
theorem gset_ne (G : Gh) {g g' : Nat} (f) (h : g' ≠ g) : gset G g f g' = G g' := by funext i a; simp [gset, h]
theorem flat_get {sz : Nat} : ∀ {es : List (List AV)}, (∀ e ∈ es, e.length = sz) → ∀ {i : Nat} {e : List AV} {j : Nat} {a : AV}, es[i]? = some e → e[j]? = some a → es.flatten[i * sz + j]? = some a
  | [], _, _, _, _, _, h, _ => by simp at h
  | x :: xs, hs, i, e, j, a, hi, hj => by
    have hx : x.length = sz := hs x (by simp)
    cases i with
    | zero =>
      simp only [List.getElem?_cons_zero, Option.some.injEq] at hi
      subst hi
      have hlt : j < x.length := (List.getElem?_eq_some_iff.1 hj).1
      simp only [List.flatten_cons, Nat.zero_mul, Nat.zero_add]
      rw [List.getElem?_append_left hlt]
      exact hj
    | succ i =>
      simp only [List.getElem?_cons_succ] at hi
      have ih := flat_get (es := xs) (fun e he => hs e (by simp [he])) hi hj
      simp only [List.flatten_cons]
      rw [List.getElem?_append_right (by rw [hx, Nat.add_mul]; omega), hx, show (i + 1) * sz + j - sz = i * sz + j by rw [Nat.add_mul]; omega]
      exact ih
theorem flat_len {sz : Nat} {es : List (List AV)} (h : ∀ e ∈ es, e.length = sz) : es.flatten.length = es.length * sz := by
  induction es with
  | nil => simp
  | cons e es ih => rw [List.flatten_cons, List.length_append, ih (fun x hx => h x (by simp [hx])), h e (by simp), List.length_cons, Nat.add_mul]; omega
theorem flat_inv {sz : Nat} : ∀ {es : List (List AV)}, (∀ e ∈ es, e.length = sz) → ∀ {k : Nat} {a : AV}, es.flatten[k]? = some a → ∃ i e j, es[i]? = some e ∧ e[j]? = some a ∧ k = i * sz + j
  | [], _, _, _, h => by simp at h
  | x :: xs, hs, k, a, h => by
    have hx : x.length = sz := hs x (by simp)
    rw [List.flatten_cons] at h
    by_cases hk : k < x.length
    · rw [List.getElem?_append_left hk] at h
      exact ⟨0, x, k, rfl, h, by simp⟩
    · rw [List.getElem?_append_right (by omega)] at h
      obtain ⟨i, e, j, h1, h2, h3⟩ := flat_inv (fun e he => hs e (by simp [he])) h
      exact ⟨i + 1, e, j, by simpa using h1, h2, by rw [Nat.add_mul]; omega⟩
theorem RS.flat {G : Gh} {A : Option Addr} {n c sz : Nat} {es : List (List AV)} (h : RS G (.slice A n c) (.sl es)) (hsz : ∀ e ∈ es, e.length = sz) : n = es.length ∧ n ≤ c ∧ (0 < es.length → ∃ g o, A = some ⟨g, o, none⟩ ∧ ∀ (k : Nat) a, es.flatten[k]? = some a → G g (o + k) a) := by
  cases h with
  | nil => exact ⟨rfl, Nat.le_refl _, fun h => absurd h (by simp)⟩
  | sl g o sz' c es hsz' hc hcell =>
    refine ⟨rfl, hc, fun h0 => ⟨g, o, rfl, fun k a hk => ?_⟩⟩
    obtain ⟨i, e, j, h1, h2, rfl⟩ := flat_inv hsz hk
    have he := List.mem_of_getElem? h1
    have : sz' = sz := (hsz' e he).symm.trans (hsz e he)
    subst this
    have := hcell i e j a h1 h2
    rwa [← Nat.add_assoc]
theorem rs_row {G : Gh} {g n c sz : Nat} {es : List (List AV)} (hn : n = es.length) (hc : n ≤ c) (hsz : ∀ e ∈ es, e.length = sz) (h : ∀ (k : Nat) a, es.flatten[k]? = some a → G g k a) : RS G (.slice (some ⟨g, 0, none⟩) n c) (.sl es) := by
  subst hn
  exact .sl g 0 sz c es hsz hc fun i e j a h1 h2 => by rw [Nat.zero_add]; exact h _ _ (flat_get hsz h1 h2)
theorem Rl.newrow {P : Program} {N : Nat} {G : Gh} {O : Om} {w : World} {tm : Array Value} {st : St} (h : Rl P N G O w tm st) {d : Nat} (hd : d < N) (E : TypeId) (cells : Array Value) (cap : Nat) (es : List (List AV)) (hsz : ∀ e ∈ es, e.length = szP P E)
    (hcap : es.length ≤ cap) (hmax : cap ≤ maxLen) (hcl : cells.size = cap * szP P E) (hc : ∀ (j : Nat) v a, cells[j]? = some v → es.flatten[j]? = some a → v.oneCell' = true ∧ RS G v a) :
    Rl P N (gset G w.heap.size fun j => es.flatten[j]?) (fun g => if g = w.heap.size then some (d, 0) else O g) (w.alloc (.cells cells E)) (tm.setIfInBounds d (.slice (some ⟨w.heap.size, 0, none⟩) es.length cap)) (st.put noSrc d (.sl es) (fun k => if k = 0 then some (some E) else none)) ∧
    Fr G O w (gset G w.heap.size fun j => es.flatten[j]?) (fun g => if g = w.heap.size then some (d, 0) else O g) (w.alloc (.cells cells E)) := by
  obtain ⟨hG, hO⟩ := h.fresh
  have hd' : d < tm.size := by rw [h.size]; exact hd
  have hle : Gle G (gset G w.heap.size fun j => es.flatten[j]?) := ⟨fun g i a hg => by
    by_cases e : g = w.heap.size
    · subst e; exact (hG _ _ hg).elim
    · rw [gset_ne _ _ e]; exact hg⟩
  have hfl := flat_len hsz
  have hmul := Nat.mul_le_mul_right (szP P E) hcap
  refine ⟨h.upd hd (fun g i a hg => ?_) hle (fun g p hp => ?_) (fun g p ho h1 h2 => ?_) (fun t T cs e hb => rfl) (.sh ?_) (fun k E' hE => ?_) (fun k E' hE => by simp at hE), rfl, rfl, rfl, by simp, hle, fun g hg ho => ?_⟩
  · by_cases e : g = w.heap.size
    · subst e
      rw [gset_fresh hG] at hg
      have hlt : i < es.flatten.length := (List.getElem?_eq_some_iff.1 hg).1
      have hi : cells[i]? = some cells[i] := Array.getElem?_eq_getElem (by omega)
      obtain ⟨h1, h2⟩ := hc i _ a hi hg
      exact ⟨_, by rw [cell_of_row _ _ i _ _ _ (heap_alloc_new w _)]; exact hi, h1, h2.mono hle⟩
    · rw [gset_ne _ _ e] at hg
      obtain ⟨v, h1, h2, h3⟩ := h.cells g i a hg
      exact ⟨v, cell_al h1, h2, h3.mono hle⟩
  · by_cases e : g = w.heap.size
    · subst e; simp
    · simp only [e, if_false] at hp
      have := h.owned g _ hp
      simp; omega
  · have hne : g ≠ w.heap.size := Nat.ne_of_lt (h.owned g p ho)
    exact ⟨Below.heap_alloc _ _ _ (h.owned g p ho), gset_ne _ _ hne, by simp only [hne, if_false]; exact ho⟩
  · exact rs_row rfl hcap hsz fun k a hk => by rw [gset_fresh hG]; exact hk
  · have hk : k = 0 := by
      by_cases e : k = 0
      · exact e
      · simp [e] at hE
    subst hk
    simp only [if_true, Option.some.injEq] at hE
    subst hE
    refine ⟨es.length, cells.toList.take (es.length * szP P E), ⟨by simp; omega, .inr ⟨w.heap.size, cap, cells, ?_, Nat.zero_le _, heap_alloc_new w _, hcap, hmax, hcl, rfl⟩⟩, fun g hv => ?_⟩
    · exact getD_set_eq' hd' _
    · simp only [pv, getD_set_eq' hd', Value.ownBlock, Option.some.injEq] at hv
      subst hv
      refine ⟨by simp, fun i a hi => ?_⟩
      rw [gset_fresh hG, List.getElem?_eq_none (by omega)]
      intro h; cases h
  · have hne : g ≠ w.heap.size := Nat.ne_of_lt hg
    exact ⟨Below.heap_alloc _ _ _ hg, gset_ne _ _ hne, by simp only [hne, if_false]; exact ho⟩

theorem run_append_tok {P : Program} (w : World) (t ty e : TypeId) (i : TypeInfo) (z : Value) (ht : P.underlying t = some (.slice e)) (hi : P.info? e = some i) (hz : i.zero = some z) (hzs : z.cells.size = i.size) (hsz : 0 < i.size)
    (v : Value) (n : Nat) (xs : List Value) (hown : w.ownsRow 0 e i.size v n xs) (A : Option Addr) (m c : Nat) (news : List Value) (hl : news.length = m * i.size) (hA : 0 < m → ∃ a, A = some a ∧ ∀ j u, news[j]? = some u → w.cell? (a.add j) = some u) (h1 : ∀ u ∈ news, u.oneCell' = true)
    (hbytes : (n + m) * i.bytes ≤ 140737488355328) (h63 : n + m ≤ 9223372036854775807) :
    ∃ v' w', (Builtin.append_ #[t, t] ty #[v, .slice A m c]).run P w = .ok v' w' ∧ w'.ownsRow 0 e i.size v' (n + m) (xs ++ news) ∧
      ((v'.ownBlock = v.ownBlock ∧ w.grownBy w' v.ownBlock) ∨ (v'.ownBlock = some w.heap.size ∧ w.grownBy w' none ∧ w.heap.size < w'.heap.size)) := by
  by_cases hm : m = 0
  · subst hm
    obtain rfl : news = [] := List.eq_nil_of_length_eq_zero (by simpa using hl)
    refine ⟨v, w, ?_, by simpa using hown, .inl ⟨rfl, World.grownBy.refl _ _⟩⟩
    rcases hown.2 with ⟨rfl, rfl⟩ | ⟨g, cap, cur, rfl, hbg, hg, hnc, hcm, hcs, htake⟩
    · cases A <;> simp [Builtin.append_, run_underlying ht, sizeOf, typeInfo, hi, Builtin.lenOf, Builtin.firstCells, loadCells, loadCellsFrom]
    · cases A <;> simp [Builtin.append_, run_underlying ht, sizeOf, typeInfo, hi, Builtin.lenOf, Builtin.firstCells, loadCells, loadCellsFrom, hnc, storeCells]
  · obtain ⟨a, rfl, hnews⟩ := hA (by omega)
    have hmx : n + m ≤ maxLen := by simpa [maxLen] using h63
    have hlen : (xs ++ news).length = (n + m) * i.size := by rw [List.length_append, hown.1, hl, Nat.add_mul]
    have grown : ∀ (old : Nat), old < n + m →
        (w.drew.alloc (.cells (xs.toArray ++ news.toArray ++ Builtin.zeroCells z.cells (grownCap w (n + m) old e - (n + m))) e)).ownsRow 0 e i.size
          (.slice (some ⟨w.heap.size, 0, none⟩) (n + m) (grownCap w (n + m) old e)) (n + m) (xs ++ news) ∧
        w.grownBy (w.drew.alloc (.cells (xs.toArray ++ news.toArray ++ Builtin.zeroCells z.cells (grownCap w (n + m) old e - (n + m))) e)) none := by
      intro old ho
      have hge := grownCap_ge w (n + m) old e
      have hcm : grownCap w (n + m) old e ≤ maxLen := grownCap_le_maxLen w (n + m) old e hmx
      refine ⟨⟨hlen, .inr ⟨w.heap.size, _, _, rfl, Nat.zero_le _, heap_alloc_new w.drew _, hge, hcm, ?_, ?_⟩⟩, ⟨rfl, rfl, rfl, by simp, fun k hk _ => Below.heap_alloc w.drew _ k hk⟩⟩
      · simp only [Array.size_append, List.size_toArray, size_zeroCells, hzs, hown.1, hl, ← Nat.add_mul]
        congr 1
        omega
      · simp only [Array.toList_append, List.append_assoc]
        rw [← List.append_assoc, ← hlen]
        exact List.take_left
    rcases hown.2 with ⟨rfl, rfl⟩ | ⟨g, cap, cur, rfl, hbg, hg, hnc, hcm, hcs, htake⟩
    · obtain rfl : xs = [] := List.eq_nil_of_length_eq_zero (by simpa using hown.1)
      have hr := run_append_nil (P := P) w t ty e i z ht hi hz a m c news hl hnews (by omega) (by omega) (by have hb := hbytes; simp only [Nat.zero_add] at hb; omega)
      have hgr := grown 0 (by omega)
      simp only [Nat.zero_add, List.nil_append, Array.empty_append] at hgr ⊢
      exact ⟨_, _, hr, hgr.1, .inr ⟨rfl, hgr.2, by simp⟩⟩
    · by_cases hroom : n + m ≤ cap
      · have hfit : n * i.size + news.length ≤ cur.size := by rw [hl, hcs, ← Nat.add_mul]; exact Nat.mul_le_mul_right _ hroom
        have hr := run_append_room (P := P) w t ty e i ht hi g n cap cur hg a m c news hl hnews h1 hroom hfit
        refine ⟨_, _, hr, ⟨hlen, .inr ⟨g, cap, _, rfl, Nat.zero_le _, setRow_heap w g cur _ e _ hg, hroom, hcm, ?_, ?_⟩⟩, .inl ⟨rfl, rfl, rfl, rfl, by simp, fun k _ hk => setRow_other w g k _ (fun e => hk (by simp [Value.ownBlock, e]))⟩⟩
        · simp only [List.size_toArray, List.length_append, List.length_take, List.length_drop, Array.length_toList]
          omega
        · rw [htake, ← hlen]
          exact List.take_left
      · have holds : ∀ j u, xs[j]? = some u → w.cell? ((⟨g, 0, none⟩ : Addr).add j) = some u := hown.cells (g := g) rfl
        have hr := run_append_grow (P := P) w t ty e i z ht hi hz ⟨g, 0, none⟩ n cap xs hown.1 holds a m c news hl hnews (by omega) (by omega) (growslice_fits (by omega) hbytes)
        have hgr := grown cap (by omega)
        exact ⟨_, _, hr, hgr.1, .inr ⟨rfl, hgr.2, by simp⟩⟩
end Go.Proofs.YtldnkeackphilaaGreatDoor
/- The calculus of values: append, store, freeze, the end of a call. -/
namespace Go.Proofs.YtldnkeackphilaaGreatDoor
open Go.RowKit

theorem TokR.row {P : Program} {G : Gh} {O : Om} {w : World} {v : Value} {p : Nat × Nat} {E0 : Option TypeId} {E : TypeId} {es : List (List AV)} (ht : TokR P G O w v p E0) (hE : E0 = none ∨ E0 = some E) (hv : RS G v (.sl es)) (hsz : ∀ e ∈ es, e.length = szP P E) :
    ∃ xs, w.ownsRow 0 E (szP P E) v es.length xs ∧ (∀ g, v.ownBlock = some g → O g = some p ∧ (∀ i a, es.length * szP P E ≤ i → ¬ G g i a) ∧ (∀ (k : Nat) a, es.flatten[k]? = some a → G g k a)) := by
  rcases hE with rfl | rfl
  · cases ht
    cases hv
    exact ⟨[], World.ownsRow_nil _ _ _ _, fun g hg => by cases hg⟩
  · obtain ⟨n, xs, hr, hg⟩ := ht
    obtain ⟨A, c, rfl, -, -⟩ := own_none hr
    obtain ⟨rfl, hc, hfl⟩ := hv.flat hsz
    refine ⟨xs, hr, fun g hgv => ?_⟩
    obtain ⟨g1, g2⟩ := hg g hgv
    refine ⟨g1, g2, fun k a hk => ?_⟩
    have h0 : 0 < es.length := by
      rcases es with _ | ⟨e, es⟩
      · simp at hk
      · simp
    obtain ⟨g', o, rfl, hcell⟩ := hfl h0
    have hgg : g' = g := by simpa [Value.ownBlock] using hgv
    subst hgg
    have ho : o = 0 := by
      rcases hr.2 with ⟨h1, _⟩ | ⟨g2, cap, cur, h1, _⟩
      · cases h1
      · simpa using congrArg (fun v => match v with | Value.slice (some a) _ _ => a.off | _ => 0) h1
    subst ho
    simpa using hcell k a hk
theorem Rl.append {P : Program} {N : Nat} {G : Gh} {O : Om} {w : World} {tm : Array Value} {st : St} (h : Rl P N G O w tm st) {d : Nat} (hd : d < N) {ts : Nat} {es es2 : List (List AV)} {E : TypeId} {E0 : Option TypeId} (t ty : TypeId)
    (ht : P.underlying t = some (.slice E)) {i : TypeInfo} {z : Value} (hi : P.info? E = some i) (hz : i.zero = some z) (hzs : z.cells.size = i.size) (hpos : 0 < i.size)
    (hval : st.val ts = .sl es) (htok : st.tok ts 0 = some E0) (hE : E0 = none ∨ E0 = some E) (hs1 : ∀ e ∈ es, e.length = szP P E) (hs2 : ∀ e ∈ es2, e.length = szP P E)
    {x : Value} (hx : RS G x (.sl es2)) (hbytes : (es.length + es2.length) * i.bytes ≤ 140737488355328) (h63 : es.length + es2.length ≤ 9223372036854775807) :
    ∃ v' w' G' O', (Builtin.append_ #[t, t] ty #[tm.getD ts undef, x]).run P w = .ok v' w' ∧
      Rl P N G' O' w' (tm.setIfInBounds d v') (st.put (fun t k => t == ts && k == 0) d (.sl (es ++ es2)) (fun k => if k = 0 then some (some E) else none)) ∧ Fr G O w G' O' w' := by
  have hsz : szP P E = i.size := by simp [szP, hi]
  have hv : RS G (tm.getD ts undef) (.sl es) := by
    have := h.vals ts
    rw [hval] at this
    exact this.rs rfl
  have hT := h.toks ts 0 E0 htok
  simp only [pv] at hT
  generalize tm.getD ts undef = v at *
  obtain ⟨xs, hr, hg⟩ := hT.row hE hv hs1
  have hfl1 := flat_len hs1
  have hfl2 := flat_len hs2
  have hall : ∀ e ∈ es ++ es2, e.length = szP P E := fun e he => by
    rcases List.mem_append.1 he with he | he
    · exact hs1 e he
    · exact hs2 e he
  -- the new cells
  obtain ⟨A, m, c, rfl⟩ : ∃ A m c, x = .slice A m c := by cases hx <;> exact ⟨_, _, _, rfl⟩
  obtain ⟨hm, hmc, hxf⟩ := hx.flat hs2
  subst hm
  obtain ⟨news, hnl, hn1, hnA⟩ : ∃ news : List Value, news.length = es2.length * i.size ∧ (∀ j u, news[j]? = some u → u.oneCell' = true ∧ ∀ a, es2.flatten[j]? = some a → RS G u a) ∧ (0 < es2.length → ∃ a, A = some a ∧ ∀ (j : Nat) u, news[j]? = some u → w.cell? (a.add j) = some u) := by
    by_cases h0 : 0 < es2.length
    · obtain ⟨gx, ox, rfl, hxc⟩ := hxf h0
      have key : ∀ j, j < es2.length * i.size → ∃ u a, es2.flatten[j]? = some a ∧ w.cell? ⟨gx, ox + j, none⟩ = some u ∧ u.oneCell' = true ∧ RS G u a := by
        intro j hj
        have hj' : j < es2.flatten.length := by rw [hfl2, hsz]; exact hj
        have hk := hxc j _ (List.getElem?_eq_getElem hj')
        obtain ⟨u, h1, h2, h3⟩ := h.cells _ _ _ hk
        exact ⟨u, _, List.getElem?_eq_getElem hj', h1, h2, h3⟩
      refine ⟨(List.range (es2.length * i.size)).map fun j => (w.cell? ⟨gx, ox + j, none⟩).getD undef, by simp, fun j u hu => ?_, fun _ => ⟨_, rfl, fun j u hu => ?_⟩⟩
      · have hj : j < es2.length * i.size := by
          have := (List.getElem?_eq_some_iff.1 hu).1
          simpa using this
        obtain ⟨u', a, h1, h2, h3, h4⟩ := key j hj
        have : u = u' := by simpa [hj, h2] using hu.symm
        subst this
        exact ⟨h3, fun b hb => by rw [h1] at hb; cases hb; exact h4⟩
      · have hj : j < es2.length * i.size := by
          have := (List.getElem?_eq_some_iff.1 hu).1
          simpa using this
        obtain ⟨u', a, h1, h2, h3, h4⟩ := key j hj
        have : u = u' := by simpa [hj, h2] using hu.symm
        subst this
        rw [Addr.add_mid]
        exact h2
    · have : es2 = [] := List.eq_nil_of_length_eq_zero (by omega)
      subst this
      exact ⟨[], by simp, fun j u hu => by simp at hu, fun h => absurd h (by simp)⟩
  rw [hsz] at hr hg
  obtain ⟨v', w', hrun, hr', hcase⟩ := run_append_tok (P := P) w t ty E i z ht hi hz hzs hpos v es.length xs hr A es2.length c news hnl hnA (fun u hu => by
    obtain ⟨j, hj⟩ := List.getElem?_of_mem hu
    exact (hn1 j u hj).1) hbytes h63
  have hxl : xs.length = es.length * i.size := hr.1
  have hd' : d < tm.size := by rw [h.size]; exact hd
  -- what the new row reads
  let f : Nat → Option AV := fun j => (es ++ es2).flatten[j]?
  have hff : ∀ (j : Nat) a, (es ++ es2).flatten[j]? = some a → (j < es.length * i.size ∧ es.flatten[j]? = some a) ∨ (es.length * i.size ≤ j ∧ es2.flatten[j - es.length * i.size]? = some a) := by
    intro j a hj
    rw [List.flatten_append] at hj
    by_cases hlt : j < es.flatten.length
    · rw [List.getElem?_append_left hlt] at hj
      rw [hfl1, hsz] at hlt
      exact .inl ⟨hlt, hj⟩
    · rw [List.getElem?_append_right (by omega), hfl1, hsz] at hj
      rw [hfl1, hsz] at hlt
      exact .inr ⟨by omega, hj⟩
  rcases hvb : v'.ownBlock with _ | g'
  · -- nil stays nil
    obtain ⟨hv0, hn0⟩ : v' = .slice none 0 0 ∧ es.length + es2.length = 0 := by
      rcases hr'.2 with h1 | ⟨g2, cap, cur, h1, _⟩
      · exact h1
      · rw [h1] at hvb; cases hvb
    have hg1 : w.grownBy w' none := by
      rcases hcase with ⟨h1, h2⟩ | ⟨h1, _⟩
      · rw [hvb] at h1; rw [← h1] at h2; exact h2
      · rw [hvb] at h1; cases h1
    have he1 : es = [] := List.eq_nil_of_length_eq_zero (by omega)
    have he2 : es2 = [] := List.eq_nil_of_length_eq_zero (by omega)
    subst he1 he2
    refine ⟨v', w', G, fun g => if O g = some (ts, 0) then none else O g, hrun, h.upd hd (fun g i a hg => ?_) (.refl _) (fun g p hp => ?_) (fun g p ho h1 h2 => ⟨hg1.block g (h.owned g p ho) (by simp), rfl, ?_⟩) (fun t' T cs e hb => ?_) (.sh (by rw [hv0]; exact .nil)) (fun k E' hE' => ?_) (fun k E' hE' => by simp at hE'),
      hg1.os, hg1.tape, hg1.output, hg1.size, .refl _, fun g hg ho => ⟨hg1.block g hg (by simp), rfl, by simp [ho]⟩⟩
    · obtain ⟨u, h1, h2⟩ := h.cells g i a hg
      exact ⟨u, by rw [World.cell?_of_block (w := w) (hg1.block g (World.block_lt_of_cell? w _ h1) (by simp))]; exact h1, h2⟩
    · have hp : O g = some p := by
        by_cases e : O g = some (ts, 0)
        · simp [e] at hp
        · simpa [e] using hp
      exact Nat.lt_of_lt_of_le (h.owned g p hp) hg1.size
    · have : O g ≠ some (ts, 0) := by
        rw [ho]
        intro e
        injection e with e
        subst e
        simp at h2
      simp only [this, if_false]
      exact ho
    · by_cases e2 : t' = ts
      · subst e2; rw [hval] at hb; cases hb
      · simp [e2]
    · have hk : k = 0 := by
        by_cases e : k = 0
        · exact e
        · simp [e] at hE'
      subst hk
      simp only [if_true, Option.some.injEq] at hE'
      subst hE'
      simp only [pv, getD_set_eq' hd']
      exact ⟨_, _, by rw [hsz]; exact hr', fun g hgv => by rw [hvb] at hgv; cases hgv⟩
  · have hlt' : g' < w'.heap.size := (World.ownsRow.lt hr' g' hvb).2
    have hblk : ∀ g, g < w.heap.size → g ≠ g' → w'.heap[g]? = w.heap[g]? := by
      intro g hg hne
      rcases hcase with ⟨h1, h2⟩ | ⟨h1, h2, h3⟩
      · exact h2.block g hg (fun e => hne (by rw [← h1, hvb] at e; injection e))
      · exact h2.block g hg (by simp)
    have hgr : w'.os = w.os ∧ w'.tape = w.tape ∧ w'.output = w.output ∧ w.heap.size ≤ w'.heap.size := by
      rcases hcase with ⟨_, h2⟩ | ⟨_, h2, _⟩ <;> exact ⟨h2.os, h2.tape, h2.output, h2.size⟩
    have hOg : O g' = some (ts, 0) ∨ (O g' = none ∧ w.heap.size ≤ g') := by
      rcases hcase with ⟨h1, h2⟩ | ⟨h1, h2, h3⟩
      · exact .inl (hg g' (by rw [← h1]; exact hvb)).1
      · rw [hvb] at h1
        injection h1 with h1
        subst h1
        exact .inr ⟨h.fresh.2, Nat.le_refl _⟩
    have hle : Gle G (gset G g' f) := gset_le _ _ _
    have hvform : ∃ cap, v' = .slice (some ⟨g', 0, none⟩) (es.length + es2.length) cap ∧ es.length + es2.length ≤ cap := by
      rcases hr'.2 with ⟨h1, _⟩ | ⟨g2, cap, cur, h1, _, _, h2, _⟩
      · rw [h1] at hvb; cases hvb
      · have : g2 = g' := by rw [h1] at hvb; simpa [Value.ownBlock] using hvb
        subst this
        exact ⟨cap, h1, h2⟩
    obtain ⟨cap, hv', hcap⟩ := hvform
    have hcells' : ∀ j u, (xs ++ news)[j]? = some u → w'.cell? ⟨g', j, none⟩ = some u := fun j u hj => by
      have := World.ownsRow.cells hr' hvb j u hj
      rwa [Addr.add_mid, Nat.zero_add] at this
    refine ⟨v', w', gset G g' f, fun g => if g = g' then some (d, 0) else if O g = some (ts, 0) then none else O g, hrun, h.upd hd (fun g k a hgk => ?_) hle (fun g p hp => ?_) (fun g p ho h1 h2 => ?_) (fun t' T cs e hb => ?_) (.sh ?_) (fun k E' hE' => ?_) (fun k E' hE' => by simp at hE'),
      hgr.1, hgr.2.1, hgr.2.2.1, hgr.2.2.2, hle, fun g hg2 ho => ?_⟩
    · by_cases e : g = g'
      · subst e
        rw [gset_eq] at hgk
        rcases (show (∃ g0, v.ownBlock = some g0 ∧ G g0 k a ∧ k < es.length * i.size) ∨ (es.length * i.size ≤ k ∧ es2.flatten[k - es.length * i.size]? = some a) from by
          rcases hgk with hgk | hgk
          · rcases hcase with ⟨c1, c2⟩ | ⟨c1, c2, c3⟩
            · obtain ⟨g1, g2, g3⟩ := hg g (by rw [← c1]; exact hvb)
              refine .inl ⟨g, by rw [← c1]; exact hvb, hgk, ?_⟩
              rcases Nat.lt_or_ge k (es.length * i.size) with hk | hk
              · exact hk
              · exact (g2 k a hk hgk).elim
            · rw [hvb] at c1
              injection c1 with c1
              subst c1
              exact (h.fresh.1 _ _ hgk).elim
          · rcases hff k a hgk with ⟨h1, h2⟩ | ⟨h1, h2⟩
            · have hvg : ∃ g0, v.ownBlock = some g0 := by
                rcases hr.2 with ⟨h3, h4⟩ | ⟨g0, cap0, cur0, h3, _⟩
                · rw [h4] at h1; omega
                · exact ⟨g0, by rw [h3]; rfl⟩
              obtain ⟨g0, hg0⟩ := hvg
              exact .inl ⟨g0, hg0, (hg g0 hg0).2.2 k a h2, h1⟩
            · exact .inr ⟨h1, h2⟩) with ⟨g0, hg0, hG0, h1⟩ | ⟨h1, h2⟩
        · -- an elder cell
          obtain ⟨g1, g2, g3⟩ := hg g0 hg0
          obtain ⟨u, u1, u2, u3⟩ := h.cells g0 k a hG0
          have hxk : xs[k]? = some xs[k] := List.getElem?_eq_getElem (by omega)
          have hc0 := World.ownsRow.cells hr hg0 k _ hxk
          rw [Addr.add_mid, Nat.zero_add, u1] at hc0
          injection hc0 with hc0
          refine ⟨u, hcells' k u ?_, u2, u3.mono hle⟩
          rw [List.getElem?_append_left (by omega), hxk, hc0]
        · have hlt2 : k - es.length * i.size < news.length := by
            have := (List.getElem?_eq_some_iff.1 h2).1
            rw [hnl]; rw [hfl2, hsz] at this; exact this
          have hnk : news[k - es.length * i.size]? = some news[k - es.length * i.size] := List.getElem?_eq_getElem hlt2
          obtain ⟨n1, n2⟩ := hn1 _ _ hnk
          refine ⟨_, hcells' k _ ?_, n1, (n2 a h2).mono hle⟩
          rw [List.getElem?_append_right (by omega), hxl]
          exact hnk
      · rw [gset_ne _ _ e] at hgk
        obtain ⟨u, u1, u2, u3⟩ := h.cells g k a hgk
        exact ⟨u, by rw [World.cell?_of_block (w := w) (hblk g (World.block_lt_of_cell? w _ u1) e)]; exact u1, u2, u3.mono hle⟩
    · by_cases e : g = g'
      · subst e; exact hlt'
      · simp only [e, if_false] at hp
        by_cases e2 : O g = some (ts, 0)
        · simp [e2] at hp
        · simp only [e2, if_false] at hp
          exact Nat.lt_of_lt_of_le (h.owned g p hp) hgr.2.2.2
    · have hp2 : O g ≠ some (ts, 0) := by
        rw [ho]
        intro e
        injection e with e
        subst e
        simp at h2
      have hne : g ≠ g' := by
        rintro rfl
        rcases hOg with h3 | ⟨h3, _⟩
        · exact hp2 h3
        · rw [h3] at ho; cases ho
      exact ⟨hblk g (h.owned g p ho) hne, gset_ne _ _ hne, by simp only [hne, hp2, if_false]; exact ho⟩
    · by_cases e2 : t' = ts
      · subst e2; rw [hval] at hb; cases hb
      · simp [e2]
    · rw [hv']
      exact rs_row (by simp) hcap hall fun k a hk => by rw [gset_eq]; exact .inr hk
    · have hk : k = 0 := by
        by_cases e : k = 0
        · exact e
        · simp [e] at hE'
      subst hk
      simp only [if_true, Option.some.injEq] at hE'
      subst hE'
      simp only [pv, getD_set_eq' hd']
      refine ⟨_, _, by rw [hsz]; exact hr', fun g hgv => ?_⟩
      have : g' = g := by rw [hvb] at hgv; injection hgv
      subst this
      refine ⟨by simp, fun k a hk hgk => ?_⟩
      rw [gset_eq] at hgk
      have hfl := flat_len hall
      rw [List.length_append] at hfl
      have hle2 : es.length * i.size ≤ (es.length + es2.length) * szP P E := by rw [hsz]; exact Nat.mul_le_mul_right _ (Nat.le_add_right _ _)
      rcases hgk with hgk | hgk
      · rcases hcase with ⟨c1, c2⟩ | ⟨c1, c2, c3⟩
        · exact (hg g' (by rw [← c1]; exact hvb)).2.1 k a (Nat.le_trans hle2 hk) hgk
        · rw [hvb] at c1
          injection c1 with c1
          subst c1
          exact (h.fresh.1 _ _ hgk).elim
      · have hgk : (es ++ es2).flatten[k]? = some a := hgk
        rw [List.getElem?_eq_none (by rw [hfl]; exact hk)] at hgk
        cases hgk
    · have hne : g ≠ g' := by
        rintro rfl
        rcases hOg with h3 | ⟨_, h3⟩
        · rw [h3] at ho; cases ho
        · omega
      exact ⟨hblk g hg2 hne, gset_ne _ _ hne, by simp [hne, ho]⟩
end Go.Proofs.YtldnkeackphilaaGreatDoor
/- The calculus of values: a store into a box, a box that is laid open for good, the end of a call. -/
namespace Go.Proofs.YtldnkeackphilaaGreatDoor
open Go.RowKit

def setsA (vs : Array Value) : Nat → List Value → Array Value
  | _, [] => vs
  | o, u :: us => setsA (vs.setIfInBounds o u) (o + 1) us
theorem setsA_size : ∀ (us : List Value) (o : Nat) (vs : Array Value), (setsA vs o us).size = vs.size
  | [], _, _ => rfl
  | u :: us, o, vs => by rw [setsA, setsA_size us]; simp
theorem setsA_get : ∀ (us : List Value) (o : Nat) (vs : Array Value), o + us.length ≤ vs.size → ∀ j, (setsA vs o us)[j]? = if o ≤ j ∧ j < o + us.length then us[j - o]? else vs[j]?
  | [], o, vs, _, j => by rw [setsA, if_neg (by simp; try omega)]
  | u :: us, o, vs, h, j => by
    simp only [List.length_cons] at h
    rw [setsA, setsA_get us (o + 1) _ (by simp; omega) j]
    by_cases h1 : o + 1 ≤ j ∧ j < o + 1 + us.length
    · rw [if_pos h1, if_pos (by simp; omega), show j - o = (j - (o + 1)) + 1 by omega, List.getElem?_cons_succ]
    · rw [if_neg h1]
      by_cases h2 : j = o
      · subst h2
        rw [if_pos (by simp)]
        simp only [Nat.sub_self, List.getElem?_cons_zero]
        rw [Array.getElem?_setIfInBounds_self_of_lt (by omega)]
      · rw [if_neg (by simp; omega), Array.getElem?_setIfInBounds_ne (Ne.symm h2)]
theorem setCells_blk {g : Nat} {T : TypeId} : ∀ (us : List Value) (o : Nat) (w : World) (vs : Array Value), w.heap[g]? = some (.cells vs T (0, 0)) → (w.setCells g o us).heap[g]? = some (.cells (setsA vs o us) T (0, 0))
  | [], _, _, _, h => h
  | u :: us, o, w, vs, h => by
    rw [World.setCells, setsA]
    exact setCells_blk us (o + 1) _ _ (blk_set h o u)
theorem setCells_far {g g' : Nat} (hne : g' ≠ g) : ∀ (us : List Value) (o : Nat) (w : World), (w.setCells g o us).heap[g']? = w.heap[g']?
  | [], _, _ => rfl
  | u :: us, o, w => by
    rw [World.setCells, setCells_far hne us]
    exact Below.heap_setCell _ _ _ _ hne
theorem setCells_rest {g : Nat} : ∀ (us : List Value) (o : Nat) (w : World), (w.setCells g o us).os = w.os ∧ (w.setCells g o us).tape = w.tape ∧ (w.setCells g o us).output = w.output ∧ (w.setCells g o us).heap.size = w.heap.size
  | [], _, _ => ⟨rfl, rfl, rfl, rfl⟩
  | u :: us, o, w => by
    rw [World.setCells]
    obtain ⟨h1, h2, h3, h4⟩ := setCells_rest (g := g) us (o + 1) (w.setCell ⟨g, o, none⟩ u)
    exact ⟨h1, h2, h3, h4.trans (by simp [World.setCell])⟩
def spliceL (cs : List AV) (off : Nat) (as : List AV) : List AV := cs.take off ++ as ++ cs.drop (off + as.length)
theorem splice_len {cs : List AV} {off : Nat} {as : List AV} (h : off + as.length ≤ cs.length) : (spliceL cs off as).length = cs.length := by simp [spliceL]; omega
theorem splice_get {cs : List AV} {off : Nat} {as : List AV} (h : off + as.length ≤ cs.length) (j : Nat) : (spliceL cs off as)[j]? = if off ≤ j ∧ j < off + as.length then as[j - off]? else cs[j]? := by
  unfold spliceL
  by_cases h1 : j < off
  · rw [if_neg (by omega), List.append_assoc, List.getElem?_append_left (by simp; omega), List.getElem?_take_of_lt h1]
  · by_cases h2 : j < off + as.length
    · rw [if_pos (by omega), List.getElem?_append_left (by simp; omega), List.getElem?_append_right (by simp; omega)]
      congr 1
      simp
      omega
    · rw [if_neg (by omega), List.getElem?_append_right (by simp; omega), List.getElem?_drop]
      congr 1
      simp
      omega
def St.sto (st : St) (src : Nat → Nat → Bool) (r off : Nat) (T : TypeId) (cs as : List AV) (tk : Nat → Option (Option TypeId)) : St :=
  ⟨fun u => if u = r then .box T (spliceL cs off as) else st.val u, fun t k => if t = r ∧ off + 1 ≤ k ∧ k ≤ off + as.length then tk (k - off - 1) else if src t k then none else st.tok t k⟩
theorem Rl.store {P : Program} {N : Nat} {G : Gh} {O : Om} {w : World} {tm : Array Value} {st : St} (h : Rl P N G O w tm st) {r off : Nat} {T : TypeId} {cs as : List AV} (hr : st.val r = .box T cs) {g o : Nat} (hp : tm.getD r undef = .pointer (some ⟨g, o, none⟩)) (us : List Value)
    (hul : us.length = as.length) (hoff : off + as.length ≤ cs.length) (hu : ∀ (j : Nat) u a, us[j]? = some u → as[j]? = some a → u.oneCell' = true ∧ RS G u a)
    (rho : Nat → Nat → Option Nat) (hbox : ∀ t T cs, st.val t = .box T cs → rho t 0 = none) (hrho : ∀ t j k, rho t j = some k → off + 1 ≤ k ∧ k ≤ off + as.length) {tk : Nat → Option (Option TypeId)}
    (htk : ∀ k E, tk k = some E → k < as.length → (E = none ∧ us[k]? = some (.slice none 0 0)) ∨ ∃ t j, t ≠ r ∧ rho t j = some (off + k + 1) ∧ st.tok t j = some E ∧ us[k]? = some (pv w tm t j)) :
    o = 0 ∧ w.there g off us.length ∧ Rl P N G (renO O r rho) (w.setCells g off us) tm (st.sto (fun t k => (rho t k).isSome) r off T cs as tk) ∧ Fr G O w G (renO O r rho) (w.setCells g off us) := by
  have hv := h.vals r
  rw [hr, hp] at hv
  obtain ⟨rfl, ho, hg, vs, hh, hl, hc⟩ : o = 0 ∧ O g = some (r, 0) ∧ (∀ i a, ¬ G g i a) ∧ ∃ vs, w.heap[g]? = some (.cells vs T (0, 0)) ∧ vs.size = cs.length ∧ ∀ (j : Nat) (v : Value) (a : AV), vs[j]? = some v → cs[j]? = some a → v.oneCell' = true ∧ RS G v a := by
    cases hv with
    | sh h => cases h
    | box g T cs vs ho hg hh hl hc => exact ⟨rfl, ho, hg, vs, hh, hl, hc⟩
  have hblk := setCells_blk us off w vs hh
  obtain ⟨r1, r2, r3, r4⟩ := setCells_rest (g := g) us off w
  have hglt : g < w.heap.size := h.owned g _ ho
  have hob : ∀ g' p, O g' = some p → p ≠ (r, 0) → g' ≠ g := fun g' p h1 h2 e => by
    subst e
    rw [ho] at h1
    injection h1 with h1
    exact h2 h1.symm
  have hren : ∀ g' p, O g' = some p → rho p.1 p.2 = none → renO O r rho g' = some p := fun g' p h1 h2 => by
    unfold renO
    rw [h1]
    simp only [h2]
  have hr0 : rho r 0 = none := hbox r T cs hr
  have hlen : off + us.length ≤ vs.size := by omega
  refine ⟨rfl, fun j hj => ⟨?_, ?_⟩, ⟨⟨h.size, ⟨fun g' i a hga => ?_, h.cells.gl⟩, fun g' p hp' => ?_, fun t => ?_, fun t k E hE => ?_⟩, fun t k E hE => ?_⟩, r1, r2, r3, by omega, .refl _, fun g' hg' hon => ⟨?_, rfl, by unfold renO; rw [hon]⟩⟩
  · rw [cell_of_row _ _ _ _ _ _ hh, Array.getElem?_eq_getElem (by omega)]
    rfl
  · simp [World.frozen?, hh]
  · have hne : g' ≠ g := by rintro rfl; exact hg _ _ hga
    obtain ⟨u, u1, u2⟩ := h.cells g' i a hga
    exact ⟨u, by rw [World.cell?_of_block (w := w) (setCells_far hne us off w)]; exact u1, u2⟩
  · unfold renO at hp'
    split at hp'
    · cases hp'
    · next t k hk => have := h.owned g' _ hk; omega
  · by_cases e : t = r
    · subst e
      rw [hp]
      simp only [St.sto, if_true]
      refine .box g T _ _ (hren g _ ho hr0) hg hblk (by rw [setsA_size, splice_len hoff, hl]) fun j v a h1 h2 => ?_
      rw [setsA_get us off vs hlen] at h1
      rw [splice_get hoff, ← hul] at h2
      by_cases hj : off ≤ j ∧ j < off + us.length
      · rw [if_pos hj] at h1 h2
        exact hu _ v a h1 h2
      · rw [if_neg hj] at h1 h2
        exact hc j v a h1 h2
    · simp only [St.sto, e, if_false]
      have hvt := h.vals t
      generalize tm.getD t undef = x at hvt ⊢
      generalize hA : st.val t = A at hvt ⊢
      have hmain : ∀ x A, RV G O w tm st.val t x A → (∀ T cs, A = .box T cs → rho t 0 = none) → RV G (renO O r rho) (w.setCells g off us) tm (st.sto (fun t k => (rho t k).isSome) r off T cs as tk).val t x A := by
        intro x A hvt
        induction hvt with
        | sh h => exact fun _ => .sh h
        | box g2 T2 cs2 vs2 ho2 hg2 hh2 hl2 hc2 =>
          intro hb
          have hne : g2 ≠ g := hob g2 _ ho2 (by simp [e])
          exact .box g2 T2 cs2 vs2 (hren g2 _ ho2 (hb _ _ rfl)) hg2 ((setCells_far hne us off w).trans hh2) hl2 hc2
        | ref r2 off2 g2 hr2 hb2 =>
          intro _
          refine .ref r2 off2 g2 hr2 ?_
          by_cases e2 : r2 = r
          · exact ⟨T, spliceL cs off as, by simp [St.sto, e2]⟩
          · simpa [St.sto, e2] using hb2
        | cnd y v a _ h2 h3 ih => exact fun _ => .cnd y v a (fun hy => ih hy (fun T cs e => by subst e; cases h3)) h2 h3
        | dead => exact fun _ => .dead _
      exact hmain x A hvt (fun T cs hb => hbox t T cs (by rw [hA, hb]))
  · simp only [St.sto] at hE
    by_cases hin : t = r ∧ off + 1 ≤ k ∧ k ≤ off + as.length
    · rw [if_pos hin] at hE
      obtain ⟨rfl, hk1, hk2⟩ := hin
      obtain ⟨k, rfl⟩ : ∃ k', k = off + k' + 1 := ⟨k - off - 1, by omega⟩
      have hkk : off + k + 1 - off - 1 = k := by omega
      rw [hkk] at hE
      have hpv : pv (w.setCells g off us) tm t (off + k + 1) = (us[k]?).getD undef := by
        simp only [pv, hp, Nat.zero_add]
        rw [cell_of_row _ _ _ _ _ _ hblk, setsA_get us off vs hlen, if_pos (by omega), show off + k - off = k by omega]
      rw [hpv]
      rcases htk k E hE (by omega) with ⟨rfl, hn⟩ | ⟨t', j, h0, h1, h2, h3⟩
      · rw [hn]; rfl
      · rw [h3]
        have ht := h.toks t' j E h2
        cases E with
        | none => exact ht
        | some E =>
          obtain ⟨n, xs, hrow, hgv⟩ := ht
          refine ⟨n, xs, ?_, fun g2 hv2 => ?_⟩
          · refine World.ownsRow.kept (row := some g) hrow ⟨r1, r2, r3, by omega, fun k hk hne => setCells_far (fun e => hne (by rw [e])) us off w⟩ ?_
            cases hob2 : Value.ownBlock (pv w tm t' j) with
            | none => exact .inl hob2
            | some g2 =>
              refine .inr fun e => ?_
              have e2 : g2 = g := by simpa [hob2] using e
              have := (hgv g2 hob2).1
              rw [e2, ho] at this
              injection this with this
              injection this with this
              exact h0 this.symm
          · obtain ⟨g1, g2'⟩ := hgv g2 hv2
            refine ⟨?_, g2'⟩
            unfold renO
            rw [g1]
            simp only [h1]
    · rw [if_neg hin] at hE
      split at hE
      · cases hE
      · next hs =>
        have hs : rho t k = none := by simpa using hs
        have ht := h.toks t k E hE
        by_cases hk0 : t = r ∧ k = 0
        · obtain ⟨rfl, rfl⟩ := hk0
          cases E with
          | none =>
            have : tm.getD t undef = .slice none 0 0 := ht
            rw [hp] at this
            cases this
          | some E =>
            obtain ⟨n, xs, hrow, _⟩ := ht
            simp only [pv] at hrow
            rw [hp] at hrow
            rcases hrow.2 with ⟨h1, _⟩ | ⟨_, _, _, h1, _⟩ <;> cases h1
        · have hpv : pv (w.setCells g off us) tm t k = pv w tm t k := by
            cases k with
            | zero => rfl
            | succ k =>
              simp only [pv]
              by_cases e : t = r
              · subst e
                rw [hp]
                simp only [Nat.zero_add]
                rw [cell_of_row _ _ _ _ _ _ hblk, cell_of_row _ _ _ _ _ _ hh, setsA_get us off vs hlen, if_neg (by omega)]
              · have hc := h.comp t k E hE
                have hvt := h.vals t
                generalize tm.getD t undef = x at *
                generalize hA : st.val t = A at hc hvt
                cases hvt with
                | sh hs' => cases hs' <;> first | rfl | cases hc
                | box g2 T2 cs2 vs2 ho2 hg2 hh2 hl2 hc2 =>
                  have hne : g2 ≠ g := hob g2 _ ho2 (by simp [e])
                  simp only [World.cell?, setCells_far hne us off w]
                | ref => cases hc
                | cnd => cases hc
                | dead => cases hc
          rw [hpv]
          exact ht.keep fun g2 ho2 => ⟨setCells_far (hob g2 _ ho2 (fun e => hk0 (by injection e with e1 e2; exact ⟨e1, e2⟩))) us off w, rfl, hren g2 _ ho2 hs⟩
  · simp only [St.sto] at hE ⊢
    by_cases e : t = r
    · simp [e, AV.comp]
    · simp only [e, if_false, false_and] at hE ⊢
      split at hE
      · cases hE
      · exact h.comp t k E hE
  · exact setCells_far (by rintro rfl; rw [ho] at hon; cases hon) us off w
end Go.Proofs.YtldnkeackphilaaGreatDoor
/- The calculus of values: a box that is laid open for good; the end of a call; what a function is known to do. -/
namespace Go.Proofs.YtldnkeackphilaaGreatDoor
open Go.RowKit

theorem set_same {tm : Array Value} (t : Nat) : tm.setIfInBounds t (tm.getD t undef) = tm := by
  apply Array.ext
  · simp
  · intro i h1 h2
    rw [Array.getElem_setIfInBounds (by simpa using h1)]
    by_cases h : t = i
    · subst h; simp [h2]
    · simp [h]
theorem Rl.freeze {P : Program} {N : Nat} {G : Gh} {O : Om} {w : World} {tm : Array Value} {st : St} (h : Rl P N G O w tm st) {t : Nat} {T : TypeId} {cs : List AV} (hval : st.val t = .box T cs) :
    ∃ G', Rl P N G' O w tm (st.put noSrc t (.ptr cs) noTok) ∧ Fr G O w G' O w := by
  have hv := h.vals t
  rw [hval] at hv
  have htN : t < N := by
    rcases Nat.lt_or_ge t N with hlt | hge
    · exact hlt
    · have : tm.getD t undef = undef := by simp [h.size, Nat.not_lt.2 hge]
      rw [this] at hv
      cases hv with
      | sh h => cases h
  obtain ⟨g, vs, hx, ho, hg, hh, hl, hc⟩ : ∃ g vs, tm.getD t undef = .pointer (some ⟨g, 0, none⟩) ∧ O g = some (t, 0) ∧ (∀ i a, ¬ G g i a) ∧ w.heap[g]? = some (.cells vs T (0, 0)) ∧ vs.size = cs.length ∧ ∀ (j : Nat) (v : Value) (a : AV), vs[j]? = some v → cs[j]? = some a → v.oneCell' = true ∧ RS G v a := by
    generalize tm.getD t undef = x at hv
    cases hv with
    | sh h => cases h
    | box g T cs vs ho hg hh hl hc => exact ⟨g, vs, rfl, ho, hg, hh, hl, hc⟩
  have hle : Gle G (gset G g fun j => cs[j]?) := gset_le _ _ _
  refine ⟨gset G g fun j => cs[j]?, ?_, rfl, rfl, rfl, Nat.le_refl _, hle, fun g' hg' hon => ⟨rfl, gset_ne _ _ (by rintro rfl; rw [ho] at hon; cases hon), hon⟩⟩
  have := h.upd htN (v := tm.getD t undef) (a := .ptr cs) (tk := noTok) (src := noSrc) (G' := gset G g fun j => cs[j]?) (O' := O) (w' := w) (fun g' i a hga => ?_) hle h.owned (fun g' p hp h1 _ => ⟨rfl, gset_ne _ _ ?_, hp⟩) (fun _ _ _ _ _ => rfl) ?_ (fun k E hE => by cases hE) (fun k E hE => by cases hE)
  · rwa [set_same] at this
  · by_cases e : g' = g
    · subst e
      rw [gset_fresh hg] at hga
      have hi : i < vs.size := by rw [hl]; exact (List.getElem?_eq_some_iff.1 hga).1
      obtain ⟨h1, h2⟩ := hc i _ a (Array.getElem?_eq_getElem hi) hga
      exact ⟨_, by rw [cell_of_row _ _ _ _ _ _ hh]; exact Array.getElem?_eq_getElem hi, h1, h2.mono hle⟩
    · rw [gset_ne _ _ e] at hga
      obtain ⟨u, u1, u2, u3⟩ := h.cells g' i a hga
      exact ⟨u, u1, u2, u3.mono hle⟩
  · rintro rfl
    rw [ho] at hp
    injection hp with hp
    subst hp
    exact h1 rfl
  · rw [set_same, hx]
    exact .sh (.ptr g 0 cs fun j a hj => by rw [gset_fresh hg, Nat.zero_add]; exact hj)
def St.one (a : AV) (tk : Nat → Option (Option TypeId)) : St := ⟨fun t => if t = 0 then a else .dead, fun t k => if t = 0 then tk k else none⟩
def noOm : Om := fun _ => none
def AV.final : AV → Bool
  | .ref _ _ => false
  | .cnd _ _ => false
  | _ => true
structure Has (P : Program) (f : FuncId) (args : List AV) (a : AV) (rt : Nat → Option (Option TypeId)) : Prop where
  fin : a.final = true
  enters : ∀ vals w, (callFunc f vals).run P w = .ok (.enter f vals) w
  calls : ∀ G w (vals : Array Value), CellsR G w → vals.size = args.length → (∀ (i : Nat) v b, vals[i]? = some v → args[i]? = some b → RS G v b) →
    Calls P f vals w fun e w' => ∃ v G' O', e = .returned v ∧ Rl P 1 G' O' w' #[v] (St.one a rt) ∧ Fr G noOm w G' O' w'
theorem Rl.ret {P : Program} {N : Nat} {G G1 : Gh} {O O1 : Om} {w w1 : World} {tm : Array Value} {st : St} (h : Rl P N G O w tm st) {d : Nat} (hd : d < N) {v : Value} {a : AV} {rt : Nat → Option (Option TypeId)} (ha : a.final = true) (hr : Rl P 1 G1 O1 w1 #[v] (St.one a rt)) (hf : Fr G noOm w G1 O1 w1) :
    ∃ O', Rl P N G1 O' w1 (tm.setIfInBounds d v) (st.put noSrc d a rt) ∧ Fr G O w G1 O' w1 := by
  have hd' : d < tm.size := by rw [h.size]; exact hd
  have hold := fun g hg => hf.old g hg rfl
  have hO1 : ∀ g p, O1 g = some p → w.heap.size ≤ g := fun g p ho => by
    rcases Nat.lt_or_ge g w.heap.size with hlt | hge
    · rw [(hold g hlt).2.2] at ho; cases ho
    · exact hge
  refine ⟨fun g => if g < w.heap.size then O g else (O1 g).map fun p => (d, p.2), h.upd hd hr.cells hf.le (fun g p hp => ?_) (fun g p ho _ _ => ?_) (fun _ _ _ _ _ => rfl) ?_ (fun k E hE => ?_) (fun k E hE => ?_), hf.os, hf.tape, hf.output, hf.size, hf.le, fun g hg ho => ⟨(hold g hg).1, (hold g hg).2.1, by simp [hg, ho]⟩⟩
  · by_cases e : g < w.heap.size
    · exact Nat.lt_of_lt_of_le e hf.size
    · simp only [e, if_false] at hp
      cases ho : O1 g with
      | none => rw [ho] at hp; cases hp
      | some q => exact hr.owned g q ho
  · have hlt := h.owned g p ho
    exact ⟨(hold g hlt).1, (hold g hlt).2.1, by simp [hlt, ho]⟩
  · have hv := hr.vals 0
    have hx : (#[v] : Array Value).getD 0 undef = v := rfl
    rw [hx, show (St.one a rt).val 0 = a from rfl] at hv
    cases hv with
    | sh h => exact .sh h
    | box g T cs vs ho hg hh hl hc =>
      refine .box g T cs vs ?_ hg hh hl hc
      have := hO1 g _ ho
      simp [Nat.not_lt.2 this, ho]
    | ref => cases ha
    | cnd => cases ha
    | dead => exact .dead _
  · have ht := hr.toks 0 k E (by simpa [St.one] using hE)
    have hpv : pv w1 (tm.setIfInBounds d v) d k = pv w1 #[v] 0 k := by
      cases k with
      | zero => simp only [pv, getD_set_eq' hd']; rfl
      | succ k => simp only [pv, getD_set_eq' hd']; rfl
    rw [hpv]
    cases E with
    | none => exact ht
    | some E =>
      obtain ⟨n, xs, hrow, hg⟩ := ht
      refine ⟨n, xs, hrow, fun g hv => ?_⟩
      obtain ⟨g1, g2⟩ := hg g hv
      have := hO1 g _ g1
      exact ⟨by simp [Nat.not_lt.2 this, g1], g2⟩
  · exact hr.comp 0 k E (by simpa [St.one] using hE)
end Go.Proofs.YtldnkeackphilaaGreatDoor
/- The calculus of values: what an operation is worth that only reads. -/
namespace Go.Proofs.YtldnkeackphilaaGreatDoor
open Go.RowKit

def St.get (st : St) : Operand → AV
  | .tmp t => match st.val t with
    | .box _ _ => .ref t 0
    | .cnd _ a => a
    | a => a
  | .const v => constAV v
  | .global g => .imm (.pointer (some ⟨g, 0, none⟩))
  | .func f => .imm (.func (.func f) #[] #[])
def St.ok (st : St) (y : Bool) : Operand → Prop
  | .tmp t => match st.val t with
    | .cnd y' _ => y = true → y' = true
    | .dead => False
    | _ => True
  | .const v => v.oneCell' = true ∨ ∃ vs, v = .agg vs ∧ vs.all (·.oneCell') = true
  | _ => True
def RX (G : Gh) (tm : Array Value) (vl : Nat → AV) (v : Value) (a : AV) : Prop :=
  RS G v a ∨ ∃ r off g T cs, a = .ref r off ∧ v = .pointer (some ⟨g, off, none⟩) ∧ tm.getD r undef = .pointer (some ⟨g, 0, none⟩) ∧ vl r = .box T cs
theorem RX.rs {G : Gh} {tm : Array Value} {vl : Nat → AV} {v : Value} {a : AV} (h : RX G tm vl v a) (ha : a.shared = true) : RS G v a := by
  rcases h with h | ⟨r, off, g, T, cs, rfl, rfl, h1, h2⟩
  · exact h
  · cases ha
theorem RV.rx {G : Gh} {O : Om} {w : World} {tm : Array Value} {vl : Nat → AV} {t : Nat} {v : Value} {a : AV} (h : RV G O w tm vl t v a) (h1 : a.plain = true) : RX G tm vl v a := by
  cases h with
  | sh h => exact .inl h
  | box => cases h1
  | ref r off g hr hb => obtain ⟨T, cs, hb⟩ := hb; exact .inr ⟨r, off, g, T, cs, rfl, rfl, hr, hb⟩
  | cnd y => cases h1
  | dead => cases h1
theorem RX.plain {G : Gh} {tm : Array Value} {vl : Nat → AV} {v : Value} {a : AV} (h : RX G tm vl v a) : a.plain = true := by
  rcases h with h | ⟨r, off, g, T, cs, rfl, _⟩
  · cases h <;> rfl
  · rfl
theorem rs_cell {G : Gh} {v : Value} (h : v.oneCell' = true) : RS G v (constCell v) := by
  unfold constCell
  split
  · exact .nil
  · exact .imm v h
theorem rs_const {G : Gh} {v : Value} (h : v.oneCell' = true ∨ ∃ vs, v = .agg vs ∧ vs.all (·.oneCell') = true) : RS G v (constAV v) := by
  rcases h with h | ⟨vs, rfl, h⟩
  · cases v <;> first | exact rs_cell h | cases h
  · have h' : ∀ (j : Nat) (v : Value), vs[j]? = some v → v.oneCell' = true := fun j v hj => (Array.all_eq_true_iff_forall_mem.1 h) v (Array.mem_of_getElem? hj)
    refine .agg vs _ (by simp) h' fun j v a hv ha => ?_
    have : a = constCell v := by
      rw [List.getElem?_map, Array.getElem?_toList, hv] at ha
      simpa using ha.symm
    subst this
    exact rs_cell (h' j v hv)
theorem get_sound {P : Program} {N : Nat} {G : Gh} {O : Om} {w : World} {a : Act} {st : St} (h : Rl P N G O w a.tmps st) {y : Bool} (hy : y = true) {x : Operand} (hx : st.ok y x) : RX G a.tmps st.val (a.eval x) (st.get x) := by
  cases x with
  | tmp t =>
    have hv := h.vals t
    have hE : a.eval (.tmp t) = a.tmps.getD t undef := rfl
    rw [hE]
    simp only [St.ok] at hx
    simp only [St.get]
    generalize hv0 : a.tmps.getD t undef = v at hv
    generalize hA : st.val t = A at hv hx
    cases hv with
    | sh h => cases h <;> exact .inl (by constructor <;> assumption)
    | box g T cs vs ho hg hh hl hc => exact .inr ⟨t, 0, g, T, cs, rfl, rfl, hv0, hA⟩
    | ref r off g hr hb => obtain ⟨T, cs, hb⟩ := hb; exact .inr ⟨r, off, g, T, cs, rfl, rfl, hr, hb⟩
    | cnd y' v A h1 h2 h3 => exact (h1 (hx hy)).rx h3
    | dead => exact hx.elim
  | const v => exact .inl (rs_const hx)
  | global g => exact .inl (.imm _ rfl)
  | func f => exact .inl (.imm _ rfl)
end Go.Proofs.YtldnkeackphilaaGreatDoor
