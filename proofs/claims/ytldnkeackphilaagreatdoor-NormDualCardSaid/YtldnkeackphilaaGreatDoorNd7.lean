/- The linear calculus: whatever order a region draws, it comes to what it comes to in the text's order. -/
import Derived.Test.YtldnkeackphilaaGreatDoorNd6
set_option linter.unusedSimpArgs false
set_option linter.unusedVariables false
namespace Go.Proofs.YtldnkeackphilaaGreatDoor.X
open Go.RowKit

section
variable {P : Program} {N : Nat} {rts : List (Nat × List Nat)} {ds : List (Option Nat)} {o : Oper} {s s' : St}
theorem drop_mem {ns : List Nat} {n : Nat} (h : n ∈ ns) : (n, (none : Option Blk)) ∈ dropE ns := List.mem_map.2 ⟨n, h, rfl⟩
theorem callE_congr (h : Agr rts ds o s s') {d : Nat} {f : FuncId} {as : List AV} {e : Eff} (he : EffIn rts ds o e) (hc : CallE P s d f as e) : CallE P s' d f as e := by
  rcases hc with hc | hc
  · obtain ⟨ns, a, rt, h1, h2, h3, h4, rfl⟩ := hc.ex
    obtain ⟨k1, k2⟩ := frz_congr ns (blk := s.blk) (blk' := s'.blk) fun n hn => h.blk n (wr_names (he.bs _ (drop_mem hn)))
    have k3 : frzF s.blk ns = frzF s'.blk ns := funext k2
    exact .inl ⟨ns, a, rt, k1 ▸ h1, k3 ▸ h2, k3 ▸ h3, h4, rfl⟩
  · obtain ⟨args, H, a, K, H', σ, fr, h1, h2, h3, h4, h5, h6, h7, h8, h9, h10, h11, rfl⟩ := hc.ex
    refine .inr ⟨args, H, a, K, H', σ, fr, h1, h2, fun p hp => ?_, h4, h5, fun q hq => ?_, h7, h8, h9, h10, h11, rfl⟩
    · obtain ⟨B, hB, hf⟩ := h3 p hp
      refine ⟨B, ?_, hf⟩
      rw [← h.blk _ (wr_names (he.bs _ (List.mem_append_right _ (drop_mem (List.mem_map_of_mem hp)))))]
      exact hB
    · rw [← h.usd _ (wr_names (he.us _ (List.mem_map_of_mem hq)))]
      exact h6 q hq
theorem new_names {d : Nat} (h : o.dst = some d) : d ∈ namesO rts ds o := List.mem_append_right _ (by rw [h]; simp [newN])
theorem stepV_congr (h : Agr rts ds o s s') (hr : rdOk rts ds o s) {e : Eff} (he : EffIn rts ds o e) (hs : stepV P N o.dst o.op (· = e) s) : stepV P N o.dst o.op (· = e) s' := by
  have hg := fun x (hx : x ∈ o.op.operands.toList) => (h.get hx).1
  have hk := fun x (hx : x ∈ o.op.operands.toList) y => (h.get hx).2 y
  have hb := fun x (hx : x ∈ o.op.operands.toList) n (hn : n ∈ refsA (s.get x)) => h.ref hr hx hn
  have hev := ev_congr (P := P) hg hb
  have hec := evc_congr (P := P) (y := true) hg hk hb
  have hnw := fun d (hd : o.dst = some d) => h.usd d (new_names hd)
  have hbs := fun p (hp : p ∈ e.bs) => h.blk p.1 (wr_names (he.bs p hp))
  have hcall := fun {d : Nat} {f : FuncId} {as : List AV} => callE_congr (P := P) (d := d) (f := f) (as := as) h he
  have hsl : ∀ t, Operand.tmp t ∈ o.op.operands.toList → s.val t = s'.val t := fun t ht => h.val t (List.mem_append_left _ (List.mem_flatMap.2 ⟨_, ht, by simp [opT]⟩))
  obtain ⟨dst, op, ty, pos, aft, gd⟩ := o
  simp only at hs hg hk hb hev hec hnw hsl ⊢
  have rest : (onD dst fun d => d < N ∧ evc P s true op ∧ (⟨some d, ev P s op, [], []⟩ : Eff) = e) → onD dst fun d => d < N ∧ evc P s' true op ∧ (⟨some d, ev P s' op, [], []⟩ : Eff) = e := by
    intro hh
    rw [← hev, ← hec]
    exact hh
  cases op with
  | alloc T =>
    obtain ⟨d, rfl, h1, h2, h3⟩ := onD_some hs
    exact ⟨h1, by rw [← hnw d rfl]; exact h2, h3⟩
  | box T x =>
    obtain ⟨d, rfl, h1, h2, h3, h4, h5⟩ := onD_some hs
    have e1 := hg x (by simp [Op.operands])
    have e2 := hk x (by simp [Op.operands])
    exact ⟨h1, by rw [← hnw d rfl]; exact h2, by rw [← e2]; exact h3, by rw [← e1]; exact h4, by rw [← e1]; exact h5⟩
  | store T addr x =>
    have e1 := hg x (by simp [Op.operands])
    have e2 := hk x (by simp [Op.operands])
    have e3 := hg addr (by simp [Op.operands])
    have e4 := hk addr (by simp [Op.operands])
    have e5 := hb addr (by simp [Op.operands])
    simp only [stepV] at hs ⊢
    rw [← e1, ← e2, ← e3, ← e4]
    obtain ⟨h0, h1, h2, h3, h4, h5, h6⟩ := hs
    refine ⟨h0, h1, h2, h3, h4, h5, ?_⟩
    cases ha : s.get addr with
    | ref n off =>
      rw [ha] at h6 e5
      simp only [stoK] at h6 ⊢
      rw [← e5 n (by simp [refsA])]
      exact h6
    | elt n i j =>
      rw [ha] at h6 e5
      simp only [stoK] at h6 ⊢
      rw [← e5 n (by simp [refsA])]
      cases hB : s.blk n with
      | none => rw [hB] at h6; exact h6.elim
      | some B =>
        rw [hB] at h6
        cases B with
        | box => exact h6.elim
        | row E es =>
          obtain ⟨k1, k2, ns, k3, k4, k5, k6⟩ := h6
          obtain ⟨q1, q2⟩ := frz_congr ns (blk := s.blk) (blk' := s'.blk) fun n hn => hbs (n, none) (by rw [← k6]; exact List.mem_cons_of_mem _ (drop_mem hn))
          refine ⟨k1, k2, ns, q1 ▸ k3, k4, ?_, ?_⟩
          · rw [← q2]; exact k5
          · rw [← q2]; exact k6
    | _ => rw [ha] at h6; exact h6.elim
  | buildSlice T n parts =>
    obtain ⟨d, rfl, h1, h2, E, ns, h3, h4, h5, h6, h7, h8, h9, h10⟩ := onD_some hs
    obtain ⟨q1, q2⟩ := frz_congr ns (blk := s.blk) (blk' := s'.blk) fun n hn => hbs (n, none) (by rw [← h10]; exact List.mem_cons_of_mem _ (drop_mem hn))
    have hpg : ∀ p ∈ parts.toList, s.get p.2 = s'.get p.2 ∧ ∀ y, s.ok y p.2 = s'.ok y p.2 := fun p hp => by
      have hm : p.2 ∈ (Op.buildSlice T n parts).operands.toList := by simp [Op.operands]; exact ⟨p.1, by simpa using hp⟩
      exact ⟨hg _ hm, hk _ hm⟩
    refine ⟨h1, by rw [← hnw d rfl]; exact h2, E, ns, h3, q1 ▸ h4, fun p hp => ?_, h6, h7, h8, h9, ?_⟩
    · obtain ⟨r1, r2⟩ := hpg p hp
      rw [← r1, ← r2, ← q2]
      exact h5 p hp
    · rw [← h10]
      simp only [rowE]
      have : (parts.toList.map fun p => (fixA (frzF s'.blk ns (s'.get p.2))).cells) = parts.toList.map fun p => (fixA (frzF s.blk ns (s.get p.2))).cells := List.map_congr_left fun p hp => by rw [(hpg p hp).1, q2]
      rw [this]
  | makeSlice T x y =>
    obtain ⟨d, rfl, h1, h2, h3, h4, h5⟩ := onD_some hs
    have e1 := hg x (by simp [Op.operands])
    have e2 := hk x (by simp [Op.operands])
    have e3 := hg y (by simp [Op.operands])
    have e4 := hk y (by simp [Op.operands])
    exact ⟨h1, by rw [← hnw d rfl]; exact h2, by rw [← e2]; exact h3, by rw [← e4]; exact h4, by rw [← e1, ← e3]; exact h5⟩
  | call c =>
    obtain ⟨callee, xs, ats⟩ := c
    cases callee with
    | builtin b =>
      cases b with
      | append =>
        simp only [stepV] at hs ⊢
        split at hs
        · next z x T T' hx ha =>
          obtain ⟨h0, hs⟩ := hs
          obtain ⟨d, rfl, h1, h2, h3, h4, E, es, ns, es2, h5, h6, h7, h8, h9⟩ := onD_some hs
          have hxm : ∀ z ∈ xs.toList, z ∈ (Op.call ⟨.builtin .append, xs, ats⟩).operands.toList := fun z hz => by simpa [Op.operands, Call.operands] using hz
          have m1 := hxm z (by rw [hx]; simp)
          have m2 := hxm x (by rw [hx]; simp)
          have e1 : appS s' E (s.get z) = appS s E (s.get z) := by
            cases hz : s.get z with
            | rw n lo len =>
              have := hb z m1 n (by rw [hz]; simp [refsA])
              cases lo <;> simp only [appS, this]
            | _ => rfl
          have e2 : appX s' (s.get x) = appX s (s.get x) := by
            cases hz : s.get x with
            | rw n lo len =>
              have := hb x m2 n (by rw [hz]; simp [refsA])
              simp only [appX, this]
            | _ => rfl
          exact ⟨h0, h1, by rw [← hnw d rfl]; exact h2, by rw [← hk z m1]; exact h3, by rw [← hk x m2]; exact h4, E, es, ns, es2, h5, by rw [← hg z m1, e1]; exact h6, by rw [← hg x m2, e2]; exact h7, h8, h9⟩
        · exact hs.elim
      | _ => exact rest hs
    | value f =>
      have hxm : ∀ z ∈ xs.toList, z ∈ (Op.call ⟨.value f, xs, ats⟩).operands.toList := fun z hz => by simp [Op.operands, Call.operands]; exact .inr (by simpa using hz)
      have hm : xs.toList.map s'.get = xs.toList.map s.get := List.map_congr_left fun z hz => (hg z (hxm z hz)).symm
      cases f with
      | func f =>
        obtain ⟨d, rfl, h1, h2, e', h3, h4⟩ := onD_some hs
        subst h4
        exact ⟨h1, fun z hz => by rw [← hk z (hxm z hz)]; exact h2 z hz, e', by rw [hm]; exact hcall h3, rfl⟩
      | tmp t =>
        obtain ⟨d, rfl, h1, h2, f, cs, h3, e', h4, h5⟩ := onD_some hs
        subst h5
        exact ⟨h1, fun z hz => by rw [← hk z (hxm z hz)]; exact h2 z hz, f, cs, by rw [← hsl t (by simp [Op.operands, Call.operands])]; exact h3, e', by rw [hm]; exact hcall h4, rfl⟩
      | _ => exact rest hs
    | _ => exact rest hs
  | _ => exact rest hs
theorem opV_congr (h : Agr rts ds o s s') (hr : rdOk rts ds o s) {e : Eff} (he : EffIn rts ds o e) (hs : opV P N ds o (· = e) s) : opV P N ds o (· = e) s' := by
  unfold opV at hs ⊢
  cases hg : o.guard with
  | none =>
    rw [hg] at hs
    exact stepV_congr h hr he hs
  | some q =>
    obtain ⟨j, want⟩ := q
    rw [hg] at hs
    obtain ⟨y, hy, hs⟩ := hs
    obtain ⟨d, hd, h1, hs⟩ := onD_some hs
    have hy' : yA ds s' j want = some y := by
      rw [← hy]
      unfold yA
      cases hdj : ds.getD j none with
      | none => rfl
      | some t =>
        have := h.val t (List.mem_append_right _ (by simp only [guardS, hg, hdj]; simp))
        simp only [this]
    have hgt := fun x (hx : x ∈ o.op.operands.toList) => (h.get hx).1
    have hkt := fun x (hx : x ∈ o.op.operands.toList) y => (h.get hx).2 y
    have hbt := fun x (hx : x ∈ o.op.operands.toList) n (hn : n ∈ refsA (s.get x)) => h.ref hr hx hn
    simp only
    refine ⟨y, hy', ?_⟩
    rw [hd]
    refine ⟨h1, ?_⟩
    cases hc : isGoCall o.op with
    | none =>
      rw [hc] at hs
      simp only at hs ⊢
      rw [← ev_congr hgt hbt, ← evc_congr hgt hkt hbt]
      exact hs
    | some q =>
      obtain ⟨f, xs⟩ := q
      rw [hc] at hs
      simp only at hs ⊢
      have hxm : ∀ z ∈ xs, z ∈ o.op.operands.toList := by
        unfold isGoCall at hc
        split at hc
        · next f' xs' ats e =>
          cases hc
          rw [e]
          intro z hz
          simp [Op.operands, Call.operands]
          exact .inr (by simpa using hz)
        · cases hc
      obtain ⟨k2, k3, b, rt, k4, k5, k6⟩ := hs
      have hm : xs.map s'.get = xs.map s.get := List.map_congr_left fun z hz => (hgt z (hxm z hz)).symm
      exact ⟨fun z hz => by rw [← hkt z (hxm z hz)]; exact k2 z hz, by rw [hm]; exact k3, b, rt, by rw [hm]; exact k4, k5, k6⟩
end
def lookB : List (Nat × Option Blk) → Nat → Option Blk → Option Blk
  | [], _, d => d
  | p :: l, m, d => if m = p.1 then p.2 else lookB l m d
theorem look_out : ∀ {l : List (Nat × Option Blk)} {m : Nat}, m ∉ l.map (·.1) → ∀ d, lookB l m d = d
  | [], _, _, _ => rfl
  | p :: l, m, h, d => by
    simp only [List.map_cons, List.mem_cons, not_or] at h
    rw [lookB, if_neg h.1]
    exact look_out h.2 d
theorem setL_blk (st : St) : ∀ (l : List (Nat × Option Blk)) (m : Nat), (st.setL l).blk m = lookB l m (st.blk m)
  | [], _ => rfl
  | p :: l, m => by
    show (if m = p.1 then p.2 else (st.setL l).blk m) = _
    rw [setL_blk st l]
    rfl
theorem app_is (st : St) (e : Eff) : (∀ u, (st.app e).val u = if e.dst = some u then e.a else st.val u) ∧ (∀ m, (st.app e).blk m = lookB e.bs m (st.blk m)) ∧ ∀ m, (st.app e).usd m = (e.us.contains m || st.usd m) := by
  obtain ⟨dst, a, bs, us⟩ := e
  obtain ⟨h1, h2, h3, -⟩ := setL_is st bs
  obtain ⟨k1, k2, k3⟩ := useL_is (st.setL bs) us
  cases dst with
  | none =>
    refine ⟨fun u => ?_, fun m => ?_, fun m => ?_⟩
    · show ((st.setL bs).useL us).val u = _
      rw [k1, h1]
      simp
    · show ((st.setL bs).useL us).blk m = _
      rw [k2, setL_blk]
    · show ((st.setL bs).useL us).usd m = _
      rw [k3, h2]
  | some d =>
    refine ⟨fun u => ?_, fun m => ?_, fun m => ?_⟩
    · show (if u = d then a else ((st.setL bs).useL us).val u) = _
      rw [k1, h1]
      by_cases e : u = d
      · subst e; simp
      · simp [e, Ne.symm e]
    · show ((st.setL bs).useL us).blk m = _
      rw [k2, setL_blk]
    · show ((st.setL bs).useL us).usd m = _
      rw [k3, h2]
def djO (d : Option Nat) (l : List Nat) : Bool := match d with
  | some d => !l.contains d
  | none => true
def apartB (rts : List (Nat × List Nat)) (ds : List (Option Nat)) (o o' : Oper) : Bool :=
  djO o.dst (opnds ds o') && djO o'.dst (opnds ds o) && djO o.dst o'.dst.toList && djB (wrN rts ds o) (namesO rts ds o') && djB (wrN rts ds o') (namesO rts ds o)
theorem djO_spec {d : Option Nat} {l : List Nat} (h : djO d l = true) : ∀ t ∈ l, d ≠ some t := by
  intro t ht e
  subst e
  simp only [djO, Bool.not_eq_true', List.contains_eq_mem, decide_eq_false_iff_not] at h
  exact h ht
theorem bs_names {rts : List (Nat × List Nat)} {ds : List (Option Nat)} {o : Oper} {e : Eff} (he : EffIn rts ds o e) {m : Nat} (h : m ∈ e.bs.map (·.1)) : m ∈ wrN rts ds o := by
  obtain ⟨p, h1, rfl⟩ := List.mem_map.1 h
  exact he.bs p h1
theorem agr_app {rts : List (Nat × List Nat)} {ds : List (Option Nat)} {o o' : Oper} {e : Eff} (he : EffIn rts ds o' e) (h1 : djO o'.dst (opnds ds o) = true) (h2 : Dj (wrN rts ds o') (namesO rts ds o)) (s : St) : Agr rts ds o s (s.app e) := by
  obtain ⟨k1, k2, k3⟩ := app_is s e
  refine ⟨fun t ht => ?_, fun n hn => ?_, fun n hn => ?_⟩
  · rw [k1, if_neg]
    rw [he.dst]
    exact djO_spec h1 t ht
  · rw [k2, look_out]
    exact fun hm => h2 n (bs_names he hm) hn
  · rw [k3]
    have : e.us.contains n = false := by
      cases hc : e.us.contains n with
      | false => rfl
      | true => exact absurd hn (h2 n (he.us n (by simpa using hc)))
    rw [this, Bool.false_or]
theorem rd_app {rts : List (Nat × List Nat)} {ds : List (Option Nat)} {o o' : Oper} {e : Eff} (he : EffIn rts ds o' e) (h1 : djO o'.dst (opnds ds o) = true) (s : St) : rdOk rts ds o (s.app e) ↔ rdOk rts ds o s := by
  have : ∀ t ∈ opnds ds o, (s.app e).val t = s.val t := fun t ht => by
    rw [(app_is s e).1, if_neg]
    rw [he.dst]
    exact djO_spec h1 t ht
  constructor
  · intro h t ht n hn
    exact h t ht n (by rw [this t ht]; exact hn)
  · intro h t ht n hn
    exact h t ht n (by rw [this t ht] at hn; exact hn)
theorem app_comm {rts : List (Nat × List Nat)} {ds : List (Option Nat)} {o1 o2 : Oper} {e1 e2 : Eff} (h1 : EffIn rts ds o1 e1) (h2 : EffIn rts ds o2 e2) (hd : djO o1.dst o2.dst.toList = true) (hw : Dj (wrN rts ds o1) (wrN rts ds o2)) (s : St) : (s.app e1).app e2 = (s.app e2).app e1 := by
  obtain ⟨a1, a2, a3⟩ := app_is s e1
  obtain ⟨b1, b2, b3⟩ := app_is s e2
  obtain ⟨c1, c2, c3⟩ := app_is (s.app e1) e2
  obtain ⟨d1, d2, d3⟩ := app_is (s.app e2) e1
  refine St.ext' (fun u => ?_) (fun m => ?_) (fun m => ?_)
  · rw [c1, d1, a1, b1]
    by_cases q1 : e1.dst = some u
    · have : e2.dst ≠ some u := by
        rw [h2.dst]
        intro e
        rw [h1.dst] at q1
        exact djO_spec hd u (by rw [e]; simp) q1
      simp [q1, this]
    · simp [q1]
  · rw [c2, d2, a2, b2]
    by_cases q1 : m ∈ e1.bs.map (·.1)
    · have q2 : m ∉ e2.bs.map (·.1) := fun q2 => hw m (bs_names h1 q1) (bs_names h2 q2)
      rw [look_out q2, look_out q2]
    · rw [look_out q1, look_out q1]
  · rw [c3, d3, a3, b3]
    cases e1.us.contains m <;> cases e2.us.contains m <;> simp

def apL (es : List Eff) (s : St) : St := es.foldl St.app s
theorem apL_append (a b : List Eff) (s : St) : apL (a ++ b) s = apL b (apL a s) := List.foldl_append ..
def sel (lst : Nat → Bool) : Nat → List Eff → List Eff
  | _, [] => []
  | k, e :: es => if lst k then e :: sel lst (k + 1) es else sel lst (k + 1) es
theorem sel_append (lst : Nat → Bool) : ∀ (a b : List Eff) (k : Nat), sel lst k (a ++ b) = sel lst k a ++ sel lst (k + a.length) b
  | [], b, k => rfl
  | e :: a, b, k => by
    simp only [List.cons_append, sel, sel_append lst a b (k + 1), List.length_cons, Nat.add_assoc, Nat.add_comm 1 a.length]
    split <;> simp
theorem sel_congr {l1 l2 : Nat → Bool} : ∀ (es : List Eff) (k : Nat), (∀ j, j < es.length → l1 (k + j) = l2 (k + j)) → sel l1 k es = sel l2 k es
  | [], _, _ => rfl
  | e :: es, k, h => by
    have h0 := h 0 (by simp)
    rw [Nat.add_zero] at h0
    have ih := sel_congr (l1 := l1) (l2 := l2) es (k + 1) fun j hj => by
      have h2 := h (j + 1) (by simp only [List.length_cons]; omega)
      have e : k + 1 + j = k + (j + 1) := (by omega)
      rw [e]
      exact h2
    simp only [sel]
    rw [h0, ih]
theorem sel_all {lst : Nat → Bool} : ∀ (es : List Eff) (k : Nat), (∀ j, j < es.length → lst (k + j) = true) → sel lst k es = es
  | [], _, _ => rfl
  | e :: es, k, h => by
    have h0 := h 0 (by simp)
    rw [Nat.add_zero] at h0
    have ih := sel_all es (k + 1) fun j hj => by
      have h2 := h (j + 1) (by simp only [List.length_cons]; omega)
      have e : k + 1 + j = k + (j + 1) := (by omega)
      rw [e]
      exact h2
    simp only [sel, h0, ih, if_true]
theorem sel_none {lst : Nat → Bool} : ∀ (es : List Eff) (k : Nat), (∀ j, j < es.length → lst (k + j) = false) → sel lst k es = []
  | [], _, _ => rfl
  | e :: es, k, h => by
    have h0 := h 0 (by simp)
    rw [Nat.add_zero] at h0
    have ih := sel_none es (k + 1) fun j hj => by
      have h2 := h (j + 1) (by simp only [List.length_cons]; omega)
      have e : k + 1 + j = k + (j + 1) := (by omega)
      rw [e]
      exact h2
    simp [sel, h0, ih]
theorem sel_mem {lst : Nat → Bool} : ∀ {es : List Eff} {k : Nat} {e : Eff}, e ∈ sel lst k es → ∃ j, es[j]? = some e ∧ lst (k + j) = true
  | [], _, _, h => by cases h
  | x :: es, k, e, h => by
    unfold sel at h
    split at h
    · next hk =>
      rcases List.mem_cons.1 h with rfl | h
      · exact ⟨0, rfl, hk⟩
      · obtain ⟨j, h1, h2⟩ := sel_mem h
        exact ⟨j + 1, h1, by rwa [show k + (j + 1) = k + 1 + j by omega]⟩
    · obtain ⟨j, h1, h2⟩ := sel_mem h
      exact ⟨j + 1, h1, by rwa [show k + (j + 1) = k + 1 + j by omega]⟩
def Comm (e e' : Eff) : Prop := ∀ s : St, (s.app e).app e' = (s.app e').app e
theorem apL_past {e : Eff} : ∀ (es : List Eff), (∀ e' ∈ es, Comm e e') → ∀ s, apL es (s.app e) = (apL es s).app e
  | [], _, _ => rfl
  | x :: es, h, s => by
    show apL es ((s.app e).app x) = (apL es (s.app x)).app e
    rw [h x (by simp) s, apL_past es (fun e' he => h e' (by simp [he]))]
def Safe (F : St → Prop) (e : Eff) : Prop := ∀ s, F (s.app e) ↔ F s
theorem sel_rem {F : St → Prop} {lst : Nat → Bool} : ∀ (es : List Eff) (k : Nat), (∀ (j : Nat) e, es[j]? = some e → lst (k + j) = false → Safe F e ∧ ∀ (j' : Nat) e', j < j' → es[j']? = some e' → lst (k + j') = true → Comm e e') → ∀ s, F (apL es s) → F (apL (sel lst k es) s)
  | [], _, _, _, h => h
  | x :: es, k, hyp, s, h => by
    have ih := sel_rem (F := F) (lst := lst) es (k + 1) (fun j e he hl => by
      obtain ⟨h1, h2⟩ := hyp (j + 1) e (by simpa using he) (by rwa [show k + (j + 1) = k + 1 + j by omega])
      exact ⟨h1, fun j' e' hj he' hl' => h2 (j' + 1) e' (by omega) (by simpa using he') (by rwa [show k + (j' + 1) = k + 1 + j' by omega])⟩) (s.app x) h
    unfold sel
    split
    · exact ih
    · next hk =>
      have hk : lst k = false := by simpa using hk
      obtain ⟨h1, h2⟩ := hyp 0 x rfl (by simpa using hk)
      rw [apL_past _ (fun e' he' => by
        obtain ⟨j, q1, q2⟩ := sel_mem he'
        exact h2 (j + 1) e' (by omega) (by simpa using q1) (by rwa [show k + (j + 1) = k + 1 + j by omega]))] at ih
      exact (h1 _).1 ih
theorem apL_safe {F : St → Prop} : ∀ (es : List Eff), (∀ e ∈ es, Safe F e) → ∀ s, F s → F (apL es s)
  | [], _, _, h => h
  | x :: es, hyp, s, h => apL_safe es (fun e he => hyp e (by simp [he])) (s.app x) ((hyp x (by simp) s).2 h)

def wD (P : Program) (N : Nat) (rts : List (Nat × List Nat)) (ds : List (Option Nat)) : List Oper → (St → Prop) → St → Prop
  | [], Q, st => Q st
  | o :: rest, Q, st => rdOk rts ds o st ∧ opV P N ds o (fun e => EffIn rts ds o e ∧ wD P N rts ds rest Q (st.app e)) st
def Fi (P : Program) (N : Nat) (rts : List (Nat × List Nat)) (ds : List (Option Nat)) (o : Oper) (e : Eff) (s : St) : Prop := rdOk rts ds o s ∧ opV P N ds o (· = e) s
theorem wD_chain {P : Program} {N : Nat} {rts : List (Nat × List Nat)} {ds : List (Option Nat)} {Q : St → Prop} : ∀ (os : List Oper) (s : St), wD P N rts ds os Q s →
    ∃ es : List Eff, es.length = os.length ∧ Q (apL es s) ∧ ∀ (i : Nat) o, os[i]? = some o → ∃ e, es[i]? = some e ∧ EffIn rts ds o e ∧ Fi P N rts ds o e (apL (es.take i) s)
  | [], s, h => ⟨[], rfl, h, fun i o hi => by simp at hi⟩
  | o :: os, s, h => by
    obtain ⟨h1, h2⟩ := h
    obtain ⟨e, ⟨h3, h4⟩, h5⟩ := opV_one h2
    obtain ⟨es, k1, k2, k3⟩ := wD_chain os _ h4
    refine ⟨e :: es, by simp [k1], k2, fun i o' hi => ?_⟩
    cases i with
    | zero =>
      simp only [List.getElem?_cons_zero, Option.some.injEq] at hi
      subst hi
      exact ⟨e, rfl, h3, h1, h5⟩
    | succ i =>
      simp only [List.getElem?_cons_succ] at hi
      obtain ⟨e', q1, q2, q3⟩ := k3 i o' hi
      exact ⟨e', by simpa using q1, q2, q3⟩
theorem wD_mono {P : Program} {N : Nat} {rts : List (Nat × List Nat)} {ds : List (Option Nat)} {Q Q' : St → Prop} (hq : ∀ s, Q s → Q' s) : ∀ (l : List Oper) {st : St}, wD P N rts ds l Q st → wD P N rts ds l Q' st
  | [], _, h => hq _ h
  | o :: l, _, h => ⟨h.1, opV_mono (o := o) h.2 fun e he => ⟨he.1, wD_mono hq l he.2⟩⟩
def drawOk (rts : List (Nat × List Nat)) (ops : List Oper) : Bool :=
  let ds := ops.map (·.dst)
  let clo := cloL ops []
  (List.range ops.length).all (fun i => ((ops.getD i default).after.toList.filter (Region.binds .any)).all fun e => decide (e.on < i)) &&
  (List.range ops.length).all fun i => (List.range i).all fun k => (clo.getD i []).contains k || apartB rts ds (ops.getD i default) (ops.getD k default)
structure Ord (rts : List (Nat × List Nat)) (ops : Array Oper) : Prop where
  low : ∀ (i : Nat) o, ops[i]? = some o → ∀ e ∈ o.after, Region.binds .any e = true → e.on < i
  apart : ∀ (i k : Nat) oi ok, k < i → ops[i]? = some oi → ops[k]? = some ok → k ∈ (cloL ops.toList []).getD i [] ∨ apartB rts (ops.toList.map (·.dst)) oi ok = true
theorem ord_of {rts : List (Nat × List Nat)} {ops : Array Oper} (h : drawOk rts ops.toList = true) : Ord rts ops := by
  unfold drawOk at h
  simp only [Bool.and_eq_true, List.all_eq_true, List.mem_range] at h
  obtain ⟨h1, h2⟩ := h
  have hget : ∀ (i : Nat) o, ops[i]? = some o → i < ops.toList.length ∧ ops.toList.getD i default = o := fun i o hi => by
    have hlt := (Array.getElem?_eq_some_iff.1 hi).1
    refine ⟨by simpa using hlt, ?_⟩
    rw [List.getD_eq_getElem?_getD, Array.getElem?_toList, hi]
    rfl
  refine ⟨fun i o hi e he hb => ?_, fun i k oi ok hk hi hok => ?_⟩
  · obtain ⟨q1, q2⟩ := hget i o hi
    have := h1 i q1
    rw [q2] at this
    have := this e (List.mem_filter.2 ⟨by simpa using he, hb⟩)
    simpa using this
  · obtain ⟨q1, q2⟩ := hget i oi hi
    obtain ⟨q3, q4⟩ := hget k ok hok
    have := h2 i q1 k hk
    rw [q2, q4] at this
    rcases Bool.or_eq_true _ _ ▸ this with h | h
    · exact .inl (by simpa using h)
    · exact .inr h
theorem draws {P : Program} {N : Nat} {C : Cx} {rts : List (Nat × List Nat)} {ops : Array Oper} (hO : Ord rts ops) {QQ : Exit → Act → World → Prop} {Q : St → Prop} {s0 : St} {es : List Eff} (hlen : es.length = ops.size) (hQ : Q (apL es s0))
    (hC : ∀ (i : Nat) o, ops[i]? = some o → ∃ e, es[i]? = some e ∧ EffIn rts (ops.toList.map (·.dst)) o e ∧ Fi P N rts (ops.toList.map (·.dst)) o e (apL (es.take i) s0)) (hK : ∀ s, Q s → Cont P N C (QQ .normal) s) :
    ∀ (fuel : Nat) (listed : Array Bool) {G : Gh} {ν : Nu} {w : World} {a : Act}, listed.size = ops.size → cntF listed.toList ≤ fuel → (∀ (k : Nat) o, ops[k]? = some o → listed.getD k false = true → ∀ e ∈ o.after, Region.binds .any e = true → listed.getD e.on false = true) →
      a.defers = [] → Inv P N C G ν w a.tmps (apL (sel (fun k => listed.getD k false) 0 es) s0) → wpAny P .any ops QQ fuel listed a w := by
  have hEff : ∀ (i : Nat) o e, ops[i]? = some o → es[i]? = some e → EffIn rts (ops.toList.map (·.dst)) o e := fun i o e ho he => by
    obtain ⟨e', h1, h2, h3⟩ := hC i o ho
    rw [he] at h1
    cases h1
    exact h2
  have hops : ∀ (i : Nat) e, es[i]? = some e → ∃ o, ops[i]? = some o := fun i e he => by
    have := (List.getElem?_eq_some_iff.1 he).1
    exact ⟨_, Array.getElem?_eq_getElem (by omega)⟩
  have hap : ∀ (i k : Nat) oi ok ei ek, apartB rts (ops.toList.map (·.dst)) oi ok = true → ops[i]? = some oi → ops[k]? = some ok → es[i]? = some ei → es[k]? = some ek → Comm ei ek ∧ Comm ek ei ∧ Safe (Fi P N rts (ops.toList.map (·.dst)) oi ei) ek ∧ Safe (Fi P N rts (ops.toList.map (·.dst)) ok ek) ei := by
    intro i k oi ok ei ek h hi hk hei hek
    unfold apartB at h
    simp only [Bool.and_eq_true] at h
    obtain ⟨⟨⟨⟨h1, h2⟩, h3⟩, h4⟩, h5⟩ := h
    have h4 := djB_spec h4
    have h5 := djB_spec h5
    have ei' := hEff i oi ei hi hei
    have ek' := hEff k ok ek hk hek
    have c1 : Comm ei ek := fun s => app_comm ei' ek' h3 (fun m hm hm' => h4 m hm (wr_names hm')) s
    refine ⟨c1, fun s => (c1 s).symm, fun s => ⟨fun ⟨q1, q2⟩ => ?_, fun ⟨q1, q2⟩ => ?_⟩, fun s => ⟨fun ⟨q1, q2⟩ => ?_, fun ⟨q1, q2⟩ => ?_⟩⟩
    · exact ⟨(rd_app ek' h2 s).1 q1, opV_congr (agr_app ek' h2 h5 s).symm q1 ei' q2⟩
    · exact ⟨(rd_app ek' h2 s).2 q1, opV_congr (agr_app ek' h2 h5 s) q1 ei' q2⟩
    · exact ⟨(rd_app ei' h1 s).1 q1, opV_congr (agr_app ei' h1 h4 s).symm q1 ek' q2⟩
    · exact ⟨(rd_app ei' h1 s).2 q1, opV_congr (agr_app ei' h1 h4 s) q1 ek' q2⟩
  have done : ∀ (listed : Array Bool) {G : Gh} {ν : Nu} {w : World} {a : Act}, listed.size = ops.size → (∀ i, i < ops.size → listed.getD i false = true) → a.defers = [] → Inv P N C G ν w a.tmps (apL (sel (fun k => listed.getD k false) 0 es) s0) → QQ .normal a w := by
    intro listed G ν w a hs hall hd hr
    rw [sel_all es 0 (fun j hj => by rw [Nat.zero_add]; exact hall j (by omega))] at hr
    exact hK _ hQ a w G ν hd hr
  have noready : ∀ (listed : Array Bool), listed.size = ops.size → Region.ready .any ops listed = [] → ∀ i, i < ops.size → listed.getD i false = true := by
    intro listed hs hr i
    induction i using Nat.strongRecOn with
    | _ i ih =>
      intro hi
      cases hl : listed.getD i false with
      | true => rfl
      | false =>
        exfalso
        have hm : i ∈ Region.ready .any ops listed := by
          rw [mem_ready]
          refine ⟨?_, _, Array.getElem?_eq_getElem hi, fun e he hb => ?_⟩
          · rw [Array.getD_eq_getD_getElem?, Array.getElem?_eq_getElem (by omega)] at hl ⊢
            exact hl
          · exact ih e.on (hO.low i _ (Array.getElem?_eq_getElem hi) e he hb) (by have := hO.low i _ (Array.getElem?_eq_getElem hi) e he hb; omega)
        rw [hr] at hm
        cases hm
  intro fuel
  induction fuel with
  | zero =>
    intro listed G ν w a hs hc hcl hd hr
    have hall : ∀ i, i < ops.size → listed.getD i false = true := fun i hi => by
      have := cntF_zero (Nat.le_zero.1 hc) i (by simpa [hs] using hi)
      rw [Array.getElem?_toList] at this
      rw [Array.getD_eq_getD_getElem?, this]
      rfl
    refine ⟨?_, done listed hs hall hd hr⟩
    cases hrd : Region.ready .any ops listed with
    | nil => rfl
    | cons i l =>
      have hm : i ∈ Region.ready .any ops listed := by rw [hrd]; simp
      obtain ⟨h0, o, ho, _⟩ := mem_ready.1 hm
      have hi := (Array.getElem?_eq_some_iff.1 ho).1
      have := hall i hi
      rw [Array.getD_eq_getD_getElem?, Array.getElem?_eq_getElem (by omega)] at this h0
      simp only [Option.getD_some] at this h0
      rw [this] at h0
      cases h0
  | succ fuel ih =>
    intro listed G ν w a hs hc hcl hd hr
    refine ⟨fun hrd => done listed hs (noready listed hs hrd) hd hr, fun i hm => ?_⟩
    obtain ⟨h0, o, ho, hready⟩ := mem_ready.1 hm
    have hi := (Array.getElem?_eq_some_iff.1 ho).1
    have hli : listed[i]? = some false := by
      rw [Array.getD_eq_getD_getElem?, Array.getElem?_eq_getElem (by omega)] at h0
      rw [Array.getElem?_eq_getElem (by omega)]
      simpa using h0
    have hlF : listed.getD i false = false := by rw [Array.getD_eq_getD_getElem?, hli]; rfl
    obtain ⟨e, he, hein, hF⟩ := hC i o ho
    have hil : i < es.length := by omega
    -- what the order knows
    let S : Nat → Prop := fun k => listed.getD k false = true
    have hSclo : ∀ k, S k → ∀ u ∈ (cloL ops.toList []).getD k [], S u := cloL_spec (S := S) ops.toList [] (fun k o' hk hS e he hb => hcl k o' (by simpa using hk) (by have h := hS; simp only [List.length_nil, Nat.zero_add] at h; exact h) e he hb) (fun k _ u hu => by simp at hu)
    have hSi : ∀ u ∈ (cloL ops.toList []).getD i [], S u := by
      have := cloL_spec (S := fun k => S k ∨ k = i) ops.toList [] (fun k o' hk hS e he hb => by
        simp only [List.length_nil, Nat.zero_add] at hS
        have hk' : ops[k]? = some o' := by simpa using hk
        rcases hS with hS | rfl
        · exact .inl (hcl k o' hk' hS e he hb)
        · rw [ho] at hk'
          cases hk'
          exact .inl (hready e he hb)) (fun k _ u hu => by simp at hu)
      intro u hu
      rcases this i (.inr rfl) u hu with h | rfl
      · exact h
      · exfalso
        -- nothing waits for itself
        have hlow : ∀ k, True → ∀ v ∈ (cloL ops.toList []).getD k [], v < k := by
          have key : ∀ (os : List Oper) (acc : List (List Nat)), (∀ (j : Nat) o', os[j]? = some o' → ∀ e ∈ o'.after, Region.binds .any e = true → e.on < acc.length + j) → (∀ k, ∀ v ∈ acc.getD k [], v < k) → ∀ k, ∀ v ∈ (cloL os acc).getD k [], v < k := by
            intro os
            induction os with
            | nil => exact fun acc _ h => h
            | cons o' os ihos =>
              intro acc h1 h2
              refine ihos _ (fun j o'' hj e he hb => ?_) ?_
              · have := h1 (j + 1) o'' (by simpa using hj) e he hb
                simp only [List.length_append, List.length_singleton]
                omega
              · intro k v hv
                rw [List.getD_eq_getElem?_getD] at hv
                by_cases hlt : k < acc.length
                · rw [List.getElem?_append_left hlt] at hv
                  exact h2 k v (by rwa [List.getD_eq_getElem?_getD])
                · by_cases hek : k = acc.length
                  · subst hek
                    rw [List.getElem?_append_right (Nat.le_refl _)] at hv
                    simp only [Nat.sub_self, List.getElem?_cons_zero, Option.getD_some] at hv
                    rw [List.mem_eraseDups, List.mem_flatMap] at hv
                    obtain ⟨e, he, hv⟩ := hv
                    obtain ⟨he1, he2⟩ := List.mem_filter.1 he
                    have hlo := h1 0 o' rfl e (by simpa using he1) he2
                    rcases List.mem_cons.1 hv with rfl | hv
                    · omega
                    · have := h2 _ v hv
                      omega
                  · rw [List.getElem?_eq_none (by simp; omega)] at hv
                    cases hv
          intro k _
          exact key ops.toList [] (fun j o' hj e he hb => by simpa using hO.low j o' (by simpa using hj) e he hb) (fun k v hv => by simp at hv) k
        have := hlow u trivial u hu
        omega
    -- the text's effects, parted at i
    have hsplit : es = es.take i ++ e :: es.drop (i + 1) := by
      have := (List.getElem?_eq_some_iff.1 he).2
      rw [← this, ← List.drop_eq_getElem_cons hil, List.take_append_drop]
    have htake : (es.take i).length = i := by simp; omega
    let lst : Nat → Bool := fun k => listed.getD k false
    have hselA : sel lst 0 es = sel lst 0 (es.take i) ++ sel lst (i + 1) (es.drop (i + 1)) := by
      conv => lhs; rw [hsplit]
      rw [sel_append, htake, Nat.zero_add]
      simp only [sel, lst, hlF, Bool.false_eq_true, if_false]
    have hget : ∀ (j : Nat) x, (es.take i)[j]? = some x → j < i ∧ es[j]? = some x := fun j x hj => by
      have hlt := (List.getElem?_eq_some_iff.1 hj).1
      rw [htake] at hlt
      rw [List.getElem?_take_of_lt hlt] at hj
      exact ⟨hlt, hj⟩
    have hF1 : Fi P N rts (ops.toList.map (·.dst)) o e (apL (sel lst 0 (es.take i)) s0) := by
      refine sel_rem (F := Fi P N rts (ops.toList.map (·.dst)) o e) (es.take i) 0 (fun j x hj hl => ?_) s0 hF
      obtain ⟨hji, hjx⟩ := hget j x hj
      obtain ⟨oj, hoj⟩ := hops j x hjx
      rw [Nat.zero_add] at hl
      refine ⟨?_, fun j' x' hjj hj' hl' => ?_⟩
      · rcases hO.apart i j o oj hji ho hoj with h | h
        · have := hSi j h
          simp only [S] at this
          simp only [lst] at hl
          rw [hl] at this
          cases this
        · exact (hap i j o oj e x h ho hoj he hjx).2.2.1
      · obtain ⟨hji', hjx'⟩ := hget j' x' hj'
        obtain ⟨oj', hoj'⟩ := hops j' x' hjx'
        rw [Nat.zero_add] at hl'
        rcases hO.apart j' j oj' oj hjj hoj' hoj with h | h
        · have := hSclo j' hl' j h
          simp only [S] at this
          simp only [lst] at hl
          rw [hl] at this
          cases this
        · exact (hap j' j oj' oj x' x h hoj' hoj hjx' hjx).2.1
    have hB : ∀ x ∈ sel lst (i + 1) (es.drop (i + 1)), Comm e x ∧ Safe (Fi P N rts (ops.toList.map (·.dst)) o e) x := by
      intro x hx
      obtain ⟨j, hj, hl⟩ := sel_mem hx
      rw [List.getElem?_drop] at hj
      obtain ⟨oj, hoj⟩ := hops _ x hj
      rcases hO.apart (i + 1 + j) i oj o (by omega) hoj ho with h | h
      · have := hSclo (i + 1 + j) hl i h
        simp only [S] at this
        rw [hlF] at this
        cases this
      · obtain ⟨q1, q2, q3, q4⟩ := hap (i + 1 + j) i oj o x e h hoj ho hj he
        exact ⟨q2, q4⟩
    have hF2 : Fi P N rts (ops.toList.map (·.dst)) o e (apL (sel lst 0 es) s0) := by
      rw [hselA, apL_append]
      exact apL_safe _ (fun x hx => (hB x hx).2) _ hF1
    have hnew : (apL (sel lst 0 es) s0).app e = apL (sel (fun k => (listed.setIfInBounds i true).getD k false) 0 es) s0 := by
      have h1 : sel (fun k => (listed.setIfInBounds i true).getD k false) 0 es = sel lst 0 (es.take i) ++ e :: sel lst (i + 1) (es.drop (i + 1)) := by
        conv => lhs; rw [hsplit]
        rw [sel_append, htake, Nat.zero_add]
        have ht : (listed.setIfInBounds i true).getD i false = true := by simp [hs, hi]
        simp only [sel, ht, if_true]
        congr 1
        · exact sel_congr _ _ fun j hj => by
            rw [htake] at hj
            simp only [lst, Nat.zero_add]
            exact getD_set_ne false (by omega)
        · congr 1
          exact sel_congr _ _ fun j hj => by
            simp only [lst]
            exact getD_set_ne false (by omega)
      rw [h1, apL_append, hselA, apL_append]
      exact (apL_past _ (fun x hx => (hB x hx).1) _).symm
    unfold wpOp
    rw [ho]
    have hsnd := op_sound (QQ := QQ) (K := wpAny P .any ops QQ fuel (listed.setIfInBounds i true)) (ops := ops) rfl hd hr hF2.2 fun a' w' G' ν' h1 h2 => by
      refine ih (listed.setIfInBounds i true) (by simp [hs]) ?_ ?_ h1 (by rw [← hnew]; exact h2)
      · have := cntF_set (l := listed.toList) (i := i) (by simpa using hli)
        simp only [Array.toList_setIfInBounds]
        omega
      · intro k o' hk hlk e' he' hb
        by_cases hki : k = i
        · subst hki
          rw [ho] at hk
          cases hk
          exact getD_set_true (hready e' he' hb)
        · rw [getD_set_ne false (Ne.symm hki)] at hlk
          exact getD_set_true (hcl k o' hk hlk e' he' hb)
    simp only
    split
    · next hw => rw [if_pos hw] at hsnd; exact .inl hsnd
    · next hw => rw [if_neg hw] at hsnd; exact hsnd
end Go.Proofs.YtldnkeackphilaaGreatDoor.X
