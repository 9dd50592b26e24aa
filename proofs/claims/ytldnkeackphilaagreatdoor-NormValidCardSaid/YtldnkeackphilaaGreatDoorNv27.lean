/- sorts: Check. -/
import Derived.Test.YtldnkeackphilaaGreatDoorNv26
import Derived.Deep.RegionHeld3
import Derived.Deep.AppendLies
import Derived.Deep.RegionLaw
import Derived.Test.YtldnkeackphilaaGreatDoorNv23
set_option linter.unusedSimpArgs false
set_option linter.unusedVariables false
namespace Go.Proofs.YtldnkeackphilaaGreatDoor
open Go.RowKit

def typesGo (ps : List Part) (sc : List Int) : List Part → Nat → List (Int × Int) → (Int × Int) ⊕ List (Int × Int)
  | [], _, ts => .inr ts
  | p :: r, i, ts => match typeF ps sc ts i p with
    | .inl f => .inl f
    | .inr t => typesGo ps sc r (i + 1) (ts ++ [t])
/-- What sorts.Check answers: the fault's code, place and cause's code, or the types. -/
def checkF (ps : List Part) (scope : Int) : (Int × Int × Option Int) ⊕ List (Int × Int) :=
  if scope ≠ 2 ∧ scope ≠ 3 then .inl (149, -1, none) else
  match validF ps with
  | some (c, pl) => .inl (140, pl, some c)
  | none => match typesGo ps (scopesF ps scope) ps 0 [] with
    | .inl (c, pl) => .inl (c, pl, none)
    | .inr ts => if sortAt ts (ps.length - 1 : Nat) ≠ 1 then .inl (145, (ps.length - 1 : Nat), none) else .inr ts
def tcells (ts : List (Int × Int)) : List Value := ts.flatMap fun t => [.int .i64 t.1, .int .i64 t.2]
abbrev OwnT (w : World) (B : Nat) (tv : Value) (ts : List (Int × Int)) : Prop := w.ownsRow B 129 2 tv ts.length (tcells ts)
def ChkV (w : World) (r : (Int × Int × Option Int) ⊕ List (Int × Int)) (tv ev : Value) (w' : World) : Prop := Below w.heap.size w w' ∧
  match r with
  | .inr ts => ev = .nilIface ∧ TypesV w' tv ts ∧ ∃ B, w.heap.size ≤ B ∧ OwnT w' B tv ts
  | .inl (c, pl, none) => tv = .slice none 0 0 ∧ ∃ b, w.heap.size ≤ b ∧ ev = .iface 114 (.pointer (some ⟨b, 0, none⟩)) ∧ w'.heap[b]? = some (.cells #[.int .i64 c, .int .i64 pl, .string ⟨#[]⟩, .nilIface] 118)
  | .inl (c, pl, some k) => tv = .slice none 0 0 ∧ ∃ b b2, ev = .iface 114 (.pointer (some ⟨b, 0, none⟩)) ∧ w'.heap[b]? = some (.cells #[.int .i64 c, .int .i64 pl, .string ⟨#[]⟩, .iface 114 (.pointer (some ⟨b2, 0, none⟩))] 118) ∧
      w'.heap[b2]? = some (.cells #[.int .i64 k, .int .i64 pl, .string ⟨#[]⟩, .nilIface] 118)
def ChkP (w : World) (r : (Int × Int × Option Int) ⊕ List (Int × Int)) (e : Ending) (w' : World) : Prop := ∃ tv ev, e = .returned (.tuple #[tv, ev]) ∧ ChkV w r tv ev w'
theorem tcells_at : ∀ (ts : List (Int × Int)) (j : Nat) (t : Int × Int), ts[j]? = some t → (tcells ts)[j * 2]? = some (.int .i64 t.1) ∧ (tcells ts)[j * 2 + 1]? = some (.int .i64 t.2) := by
  intro ts
  induction ts with
  | nil => intro j t h; simp at h
  | cons u r ih =>
    intro j t h
    rcases j with _ | j
    · simp at h
      subst h
      exact ⟨rfl, rfl⟩
    · have := ih j t (by simpa using h)
      rw [show (j + 1) * 2 = j * 2 + 1 + 1 from by omega]
      exact this
theorem ownT_reads {w : World} {B : Nat} {tv : Value} {ts : List (Int × Int)} (h : OwnT w B tv ts) (hl : ts.length ≤ 4398046510976) : TypesV w tv ts := by
  obtain ⟨A, c, rfl, -, -⟩ := own_none h
  refine ⟨A, c, rfl, hl, fun j t hj => ?_⟩
  have hjl := (List.getElem?_eq_some_iff.1 hj).1
  obtain ⟨g, c', he, hb, hlt, hc⟩ := own_cells h (by omega)
  injection he with he
  subst he
  obtain ⟨h1, h2⟩ := tcells_at ts j t hj
  exact ⟨g, 0, rfl, hlt, by simpa using hc _ _ h1, by simpa using hc _ _ h2⟩
theorem Tryz.info_type : (Tryz.prog.info? 129).map (fun i => (i.zero, i.size, i.bytes)) = some (some (.agg #[.int .i64 0, .int .i64 0]), 2, 16) := by kernel_rfl
theorem typesGo_step {ps : List Part} {sc : List Int} {k : Nat} {p : Part} {ts : List (Int × Int)} (h : ps[k]? = some p) : typesGo ps sc (ps.drop k) k ts = match typeF ps sc ts k p with
    | .inl f => .inl f
    | .inr t => typesGo ps sc (ps.drop (k + 1)) (k + 1) (ts ++ [t]) := by
  obtain ⟨hk, rfl⟩ := List.getElem?_eq_some_iff.1 h
  rw [List.drop_eq_getElem_cons hk, typesGo]
theorem check_next {w w2 W wa : World} {lb g cap : Nat} {tv a b : Value} {ts : List (Int × Int)} {T : TypeId} {s d : Int} (HO : OwnT W w2.heap.size tv ts) (HB : Below w.heap.size w W) (HG : w2.grownBy W (some lb)) (HH : W.heap[lb]? = some (.cells #[a, b, tv] T (0, 0)))
    (h1 : lb < w2.heap.size) (h2 : w.heap.size ≤ lb) (o : Obj) (hown : wa.ownsRow w2.heap.size 129 2 (.slice (some ⟨g, 0, none⟩) (ts.length + 1) cap) (ts.length + 1) (tcells ts ++ [.int .i64 s, .int .i64 d])) (hgrow : (W.alloc o).drew.grownBy wa tv.ownBlock) :
    (wa.setCell ⟨lb, 2, none⟩ (.slice (some ⟨g, 0, none⟩) (ts.length + 1) cap)).heap[lb]? = some (.cells #[a, b, .slice (some ⟨g, 0, none⟩) (ts.length + 1) cap] T (0, 0)) ∧
    OwnT (wa.setCell ⟨lb, 2, none⟩ (.slice (some ⟨g, 0, none⟩) (ts.length + 1) cap)) w2.heap.size (.slice (some ⟨g, 0, none⟩) (ts.length + 1) cap) (ts ++ [(s, d)]) ∧
    Below w.heap.size w (wa.setCell ⟨lb, 2, none⟩ (.slice (some ⟨g, 0, none⟩) (ts.length + 1) cap)) ∧ w2.grownBy (wa.setCell ⟨lb, 2, none⟩ (.slice (some ⟨g, 0, none⟩) (ts.length + 1) cap)) (some lb) := by
  have hrow : ∀ k, tv.ownBlock = some k → w2.heap.size ≤ k := fun k hk => (World.ownsRow.lt HO k hk).1
  have hs := HG.size
  have hlW : lb < W.heap.size := by omega
  have hx : w2.grownBy (W.alloc o).drew (some lb) := grown_dr (HG.trans (World.grownBy_alloc _ _ _)) 1
  have hgl : g ≠ lb := by have := (World.ownsRow.lt hown g rfl).1; omega
  refine ⟨?_, ?_, ?_, grown_set (grown_own hx hgrow hrow) (.inl rfl) _⟩
  · have e : wa.heap[lb]? = some (.cells #[a, b, tv] T (0, 0)) := (hgrow.block lb (by simp; omega) (fun e => by have := hrow lb e.symm; omega)).trans (heap_al HH)
    exact blk_set e 2 _
  · have e : tcells (ts ++ [(s, d)]) = tcells ts ++ [.int .i64 s, .int .i64 d] := by simp [tcells]
    unfold OwnT
    rw [e, List.length_append]
    exact World.ownsRow.kept (row := some lb) hown (grown_set (World.grownBy.refl wa _) (.inl rfl) _) (.inr (by simp [Value.ownBlock, hgl]))
  · exact Below.setCell ((below_dr (below_al HB o)).grown hgrow (by have := HB.size; simp; omega) (fun k hk => by have := hrow k hk; omega)) h2 _
/-- errors.As with a new variable of type *api.Fault. -/
theorem as_new (e : Addr) (W : World) (hG : Glob W) : Calls Tryz.prog 43 #[.iface 114 (.pointer (some e)), .iface 116 (.pointer (some ⟨W.heap.size, 0, none⟩))] (W.alloc (.cells #[.pointer none] 114)) fun ev w' =>
    ev = .returned (.bool true) ∧ Below W.heap.size W w' ∧ W.heap.size < w'.heap.size ∧ w'.heap[W.heap.size]? = some (.cells #[.pointer (some e)] 114 (0, 0)) := by
  have hb := heap_alloc_new W (.cells #[.pointer none] 114)
  refine (as_hit e ⟨W.heap.size, 0, none⟩ (.pointer none) _ (hG.below (below_box W _)).et (cell_of_row _ _ 0 _ _ _ hb) (by unfold World.frozen?; rw [hb]; simp)).mono ?_
  rintro ev w' ⟨rfl, rfl⟩
  refine ⟨rfl, Below.setCell (below_al (below_al (below_al (below_al (below_box W _) _) _) _) _) (Nat.le_refl _) _, by simp [World.setCell]; omega, ?_⟩
  exact blk_set (heap_al (heap_al (heap_al (heap_al hb)))) 0 _
set_option maxHeartbeats 4000000 in
set_option maxRecDepth 100000 in
theorem check_c (ps : List Part) (pv : Value) (scope : Int) (w : World) (hp : PartsV w pv ps) (hG : Glob w) (hsc : R64 scope) : Calls Tryz.prog 20 #[.agg #[pv], .int .i64 scope] w (ChkP w (checkF ps scope)) := by
  have hp1 : Hid (PartsV (w.alloc (.cells #[pv] 30)) pv ps) := hp.below (below_box _ _)
  have hG1 : Hid (Glob (w.alloc (.cells #[pv] 30))) := hG.below (below_box _ _)
  have HP := Lib.hid hp
  have HG0 := Lib.hid hG
  obtain ⟨A, c, rfl, hlen, hps⟩ := hp
  clear hps hG
  by_cases hs : scope = 2 ∨ scope = 3
  · have HC : Hid (checkF ps scope = match validF ps with
      | some (c, pl) => .inl (140, pl, some c)
      | none => match typesGo ps (scopesF ps scope) ps 0 [] with
        | .inl (c, pl) => .inl (c, pl, none)
        | .inr ts => if sortAt ts (ps.length - 1 : Nat) ≠ 1 then .inl (145, (ps.length - 1 : Nat), none) else .inr ts) := by unfold Hid checkF; rw [if_neg (by omega)]
    cases hv : validF ps with
    | some q =>
      obtain ⟨cd, pl⟩ := q
      have HC2 : Hid (checkF ps scope = .inl (140, pl, some cd)) := by unfold Hid; rw [HC.out, hv]
      have Hv := Lib.hid hv
      clear HC hv
      rcases hs with rfl | rfl
      all_goals
        go_enter Tryz.func20, Tryz.ntmps20
        go_wp2_with fail
        refine (valid_c ps _ _ hp1.out).mono ?_
        rw [Hv.out]
        rintro e w1 ⟨v, rfl, hB, b, rfl, hb1, hb2⟩
        have HB : Below w.heap.size w w1 := (below_box w _).trans (hB.mono (by simp))
        have hg := Lib.hid (hG1.out.below hB)
        have Hb2 := Lib.hid hb2
        clear hB hb2
        go_wp2_with fail
        refine (as_new ⟨b, 0, none⟩ w1 hg.out).mono ?_
        rintro e w2 ⟨rfl, hB2, hs2, ht⟩
        have HB2 : Below w.heap.size w w2 := below_then HB HB.size hB2
        have hb3 : w2.heap[b]? = some (.cells #[.int .i64 cd, .int .i64 pl, .string ⟨#[]⟩, .nilIface] 118 (0, 0)) := (hB2.block b (Array.getElem?_eq_some_iff.1 Hb2.out).1).trans Hb2.out
        have hf1 : w2.cell? ⟨b, 1, none⟩ = some (.int .i64 pl) := cell_of_row _ _ 1 _ _ _ hb3
        have hf2 : w2.cell? ⟨w1.heap.size, 0, none⟩ = some (.pointer (some ⟨b, 0, none⟩)) := cell_of_row _ _ 0 _ _ _ ht
        have Hb3 := Lib.hid hb3
        clear hB2 hb3 ht Hb2
        go_wp2
        go_region
        go_wp2
        go_ret2
        rw [HC2.out]
        exact ⟨_, _, rfl, below_dr (below_al HB2 _), rfl, _, b, rfl, heap_at rfl, heap_al Hb3.out⟩
    | none =>
      have hwf : WF ps := by
        unfold validF at hv
        split at hv
        · cases hv
        · exact wf_of_shape (by assumption)
      have HC2 : Hid (checkF ps scope = match typesGo ps (scopesF ps scope) ps 0 [] with
        | .inl (c, pl) => .inl (c, pl, none)
        | .inr ts => if sortAt ts (ps.length - 1 : Nat) ≠ 1 then .inl (145, (ps.length - 1 : Nat), none) else .inr ts) := by unfold Hid; rw [HC.out, hv]
      have Hv := Lib.hid hv
      have HWF := Lib.hid hwf
      have hpos := hwf.pos
      have hle := hwf.le
      have hsb : scope = 2 ∨ scope = 3 := hs
      clear HC hv hwf hs
      generalize checkF ps scope = cr at *
      rcases hsb with rfl | rfl
      all_goals
        go_enter Tryz.func20, Tryz.ntmps20
        go_wp2_with fail
        refine (valid_c ps _ _ hp1.out).mono ?_
        rw [Hv.out]
        rintro e w1 ⟨v, rfl, hB, rfl⟩
        have HB : Below w.heap.size w w1 := (below_box w _).trans (hB.mono (by simp))
        have ht2 : w1.cell? ⟨w.heap.size, 0, none⟩ = some (.slice A ps.length c) := by
          rw [(bcell hB).1 _ _ (by simp)]; simp
        clear hB
        have hsz1 : w.heap.size < w1.heap.size := World.block_lt_of_cell? _ _ ht2
        go_wp2_with fail
        have hlb := heap_alloc_new w1 (.cells #[.slice A ps.length c, .slice none 0 0, .slice none 0 0] 125)
        refine (spread_c w1.heap.size _ ps _ w (w1.alloc (.cells #[.slice A ps.length c, .slice none 0 0, .slice none 0 0] 125)) HP.out HWF.out (below_al HB _) HB.size hsc hlb).mono ?_
        rintro e w2 ⟨rfl, hl, hI, hgr⟩
        have HB2 : Below w.heap.size w w2 := (below_al HB (.cells #[.slice A ps.length c, .slice none 0 0, .slice none 0 0] 125)).grown hgr (by simp; omega) (fun k hk => by cases hk; exact HB.size)
        have hl0 : w2.cell? ⟨w1.heap.size, 0, none⟩ = some (.slice A ps.length c) := cell_of_row _ _ 0 _ _ _ hl
        have hsz2 : w1.heap.size + 1 ≤ w2.heap.size := by have := hgr.size; simpa using this
        have Hl := Lib.hid hl
        have HI := Lib.hid hI
        simp only [World.size_alloc] at HI Hl
        clear hl hI hgr hlb ht2
        go_wp2
        clear hl0
        generalize hscv : scopesF ps _ = sc at *
        have hscl : sc.length = ps.length := by rw [← hscv]; exact scopesF_len ps _
        have Hscl := Lib.hid hscl
        clear hscv hscl
        have hlt1 : w1.heap.size < w2.heap.size := by omega
        have hlt2 : w1.heap.size + 1 < w2.heap.size := by
          obtain ⟨-, b, o, hA, hblt, -⟩ := HI.out.get 0 _ (List.getElem?_eq_getElem (show 0 < sc.length by have := Hscl.out; omega))
          have : w1.heap.size + 1 = b := by injection hA with hA; injection hA
          omega
        go_loopw [49] (fun i wr => ∃ (k : Nat) (ts : List (Int × Int)) (tv : Value), k ≤ ps.length ∧ i = .int .i64 k ∧ Hid (ts.length = k) ∧ Hid (wr.heap[w1.heap.size]? = some (.cells #[.slice A ps.length c, .slice (some ⟨w1.heap.size + 1, 0, none⟩) ps.length ps.length, tv] 125 (0, 0))) ∧ Hid (OwnT wr w2.heap.size tv ts) ∧ Hid (Below w.heap.size w wr) ∧ Hid (w2.grownBy wr (some w1.heap.size)) ∧ Hid (typesGo ps sc ps 0 [] = typesGo ps sc (ps.drop k) k ts)) (fun i wr => ps.length - (intOf i).toNat)
        case atStart => exact ⟨0, [], _, Nat.zero_le _, rfl, rfl, Hl, World.ownsRow_nil _ _ _ _, HB2, World.grownBy.refl _ _, rfl⟩
        case round =>
          obtain ⟨k, ts, tv, hk, rfl, Htl, HH, HO, HBr, HGr, HT⟩ := hrel
          obtain ⟨At, ct, rfl, hn63, hnc⟩ := own_none HO.out
          by_cases hlt : k < ps.length
          · have hget : ps[k]? = some ps[k] := List.getElem?_eq_getElem hlt
            have HL : Look wr w1.heap.size (.slice A ps.length c) (.slice (some ⟨w1.heap.size + 1, 0, none⟩) ps.length ps.length) (.slice At ts.length ct) ps sc ts :=
              ⟨cell_of_row _ _ 0 _ _ _ HH.out, cell_of_row _ _ 1 _ _ _ HH.out, cell_of_row _ _ 2 _ _ _ HH.out, (Array.getElem?_eq_some_iff.1 HH.out).1, HP.out.below HBr.out, HI.out.blk (HGr.out.block _ (by omega) (by simp)) HGr.out.size, ownT_reads HO.out (by have := Htl.out; omega)⟩
            have hkid : ∀ x ∈ ps[k].kids, 0 ≤ x ∧ x < ts.length := by rw [Htl.out]; exact HWF.out.kids k _ hget
            have hpc := part_c w1.heap.size _ _ _ ps sc ts k _ wr HL hget hkid (by have := Hscl.out; omega) (HWF.out.fits k _ hget) (by have := Htl.out; omega) (HG0.out.below HBr.out)
            have Hpc := Lib.hid hpc
            have Hget := Lib.hid hget
            clear hpc HL hkid hget
            generalize ps[k] = p at *
            have hlw : w1.heap.size < wr.heap.size := (Array.getElem?_eq_some_iff.1 HH.out).1
            cases ht : typeF ps sc ts k p with
            | inl f =>
              obtain ⟨cd, pl⟩ := f
              have HC3 : Hid (cr = .inl (cd, pl, none)) := by rw [HC2.out, HT.out, typesGo_step Hget.out, ht]; rfl
              rw [ht] at Hpc
              clear ht HT HC2
              go_wp2_with fail
              refine Hpc.out.mono ?_
              rintro e w3 ⟨s, d, fv, rfl, hB3, b, rfl, hb1, hb2⟩
              have Hb2 := Lib.hid hb2
              have HB3 := Lib.hid (below_then HBr.out HBr.out.size hB3)
              clear hb2 hB3
              go_wp2
              go_ret2
              rw [HC3.out]
              exact ⟨_, _, rfl, below_al HB3.out _, rfl, b, Nat.le_trans HBr.out.size hb1, rfl, heap_al Hb2.out⟩
            | inr t =>
              have HT2 : Hid (typesGo ps sc ps 0 [] = typesGo ps sc (ps.drop (k + 1)) (k + 1) (ts ++ [t])) := by unfold Hid; rw [HT.out, typesGo_step Hget.out, ht]
              rw [ht] at Hpc
              clear ht HT
              go_wp2_with fail
              refine Hpc.out.mono ?_
              rintro e w3 ⟨s, d, fv, rfl, ⟨hB3, rfl⟩, rfl⟩
              have HB3 := Lib.hid (below_then HBr.out HBr.out.size hB3)
              have HH3 : Hid (w3.heap[w1.heap.size]? = _) := (hB3.block _ hlw).trans HH.out
              have HO3 : Hid (OwnT w3 w2.heap.size (.slice At ts.length ct) ts) := own_below HO.out hB3
              have HGr3 : Hid (w2.grownBy w3 (some w1.heap.size)) := HGr.out.trans ⟨hB3.os, hB3.tape, hB3.output, hB3.size, fun i hi _ => hB3.block i hi⟩
              have hl2 : w3.cell? ⟨w1.heap.size, 2, none⟩ = some (.slice At ts.length ct) := cell_of_row _ _ 2 _ _ _ HH3.out
              have hf2 : w3.frozen? ⟨w1.heap.size, 2, none⟩ = false := by unfold World.frozen?; rw [HH3.out]; simp
              have hlw3 : w1.heap.size < w3.heap.size := by have := hB3.size; omega
              clear hB3 HH HO HGr HBr
              have ag : (Value.slice At ts.length ct).ownBlock ≠ some w1.heap.size := fun e => by have := (World.ownsRow.lt HO3.out _ e).1; omega
              have ak : (Value.slice At ts.length ct).ownBlock ≠ some w3.heap.size := fun e => by have := (World.ownsRow.lt HO3.out _ e).2; omega
              have Hag := Lib.hid ag
              have Hak := Lib.hid ak
              clear ag ak
              go_wp2_with fail
              have hcs := heap_alloc_new w3 (.cells #[.int .i64 s, .int .i64 d] 129)
              have hc0 := cell_of_row _ _ 0 _ _ _ hcs
              have hc1 := cell_of_row _ _ 1 _ _ _ hcs
              have hfz := fun i => show (w3.alloc (.cells #[.int .i64 s, .int .i64 d] 129)).frozen? ⟨w3.heap.size, i, none⟩ = false by unfold World.frozen?; rw [hcs]; simp
              have HO4 : Hid (OwnT (w3.alloc (.cells #[.int .i64 s, .int .i64 d] 129)) w2.heap.size (.slice At ts.length ct) ts) := own_below HO3.out (below_box _ _)
              have HB4 : Hid (Below w.heap.size w (w3.alloc (.cells #[.int .i64 s, .int .i64 d] 129))) := below_al HB3.out _
              have HGr4 : Hid (w2.grownBy (w3.alloc (.cells #[.int .i64 s, .int .i64 d] 129)) (some w1.heap.size)) := HGr3.out.trans (World.grownBy_alloc _ _ _)
              have HH4 := Lib.hid (heap_al (o' := .cells #[.int .i64 s, .int .i64 d] 129) HH3.out)
              have hsz4 : (w3.alloc (.cells #[.int .i64 s, .int .i64 d] 129)).heap.size = w3.heap.size + 1 := by simp
              generalize w3.alloc (.cells #[.int .i64 s, .int .i64 d] 129) = W at *
              have hl2 : W.cell? ⟨w1.heap.size, 2, none⟩ = some (.slice At ts.length ct) := cell_of_row _ _ 2 _ _ _ HH4.out
              have hf2 : W.frozen? ⟨w1.heap.size, 2, none⟩ = false := by unfold World.frozen?; rw [HH4.out]; simp
              have hlw4 : w1.heap.size < W.heap.size := by omega
              have hlw5 : w3.heap.size < W.heap.size := by omega
              have hlw6 : w2.heap.size ≤ W.heap.size := HGr4.out.size
              have hkt : ts.length ≤ 1000 := by have := Htl.out; omega
              obtain ⟨i0, hi0, hz0, hz1, hz2⟩ := info_parts Tryz.info_type
              clear hcs HO3 HB3 HGr3 HH3 hlw3 hsz4
              have hnn := World.new_ne W ⟨w1.heap.size, 2, none⟩ hl2
              go_region_law ((refine step_append_lies _ (by rfl) _ _ _ (by rfl) w2.heap.size 129 i0 _ 2 16 Tryz.underlying46 hi0 hz0 hz1 hz2 rfl (by omega) (.slice At ts.length ct) ts.length (tcells ts) (by rfl) ((HO4.out.alloc _).drew) ⟨W.heap.size, 0, none⟩ 1 1 [.int .i64 s, .int .i64 d] (by rfl) (by rfl) (World.news_of_block (cs := #[.int .i64 s, .int .i64 d]) (t := 129) (fr := (0, 0)) (heap_alloc_new W _)) (by simp [Value.oneCell']) (by omega) (by simp only [maxLen]; omega) (by omega) (by simp; omega) (W.heap.size + 1) (by simp) ?_; intro gg cap wa hown1 hgrow hat hlt'; have hfw : wa.frozen? ⟨w1.heap.size, 2, none⟩ = false := (hgrow.frozen_far _ (by simp; omega) (Ne.symm Hag.out)).trans (frozen_dr (frozen_al hlw4 hf2)); have hcw : wa.cell? ⟨w1.heap.size, 2, none⟩ = some (.slice At ts.length ct) := (hgrow.cell_far _ (by simp; omega) (Ne.symm Hag.out)).trans (cell_dr (cell_al hl2))))
              all_goals
                obtain ⟨HH5, HO5, HB5, HG5⟩ := check_next HO4.out HB4.out HGr4.out HH4.out hlt1 (by omega) _ hown1 hgrow
                have HH6 := Lib.hid HH5
                have HO6 := Lib.hid HO5
                have HB6 := Lib.hid HB5
                have HG6 := Lib.hid HG5
                clear HH5 HO5 HB5 HG5 hown1 hgrow hat hfw hcw
                generalize wa.setCell ⟨w1.heap.size, 2, none⟩ (.slice (some ⟨gg, 0, none⟩) (ts.length + 1) cap) = W9 at *
                go_wp2
                go_roundw
                case rel => exact ⟨k + 1, ts ++ [(s, d)], _, by omega, by go_num, by unfold Hid; rw [List.length_append, Htl.out]; rfl, HH6, HO6, HB6, HG6, HT2⟩
                case measure => simp [intOf]; try omega
          · have hkn : k = ps.length := by omega
            subst hkn
            have hTV := ownT_reads HO.out (by have := Htl.out; omega)
            obtain ⟨⟨s, d⟩, hts⟩ : ∃ t, ts[ts.length - 1]? = some t := ⟨_, List.getElem?_eq_getElem (by have := Htl.out; omega)⟩
            obtain ⟨g, o, hA, hgl, hts0, -⟩ := hTV.get hts
            have hso : Hid (sortAt ts (ps.length - 1 : Nat) = s) := by
              unfold Hid
              rw [← Htl.out]
              exact sortAt_nat hts
            have HT2 : Hid (cr = if s ≠ 1 then .inl (145, (ps.length - 1 : Nat), none) else .inr ts) := by
              unfold Hid
              rw [HC2.out, HT.out, List.drop_length, typesGo]
              simp only [hso.out]
            have hi1 : ((ts.length : Int) - 1) = ((ts.length - 1 : Nat) : Int) := by have := Htl.out; omega
            have hi2 : (0 : Int) ≤ ((ts.length - 1 : Nat) : Int) := by omega
            have hi3 : ((ts.length - 1 : Nat) : Int) < (ts.length : Int) := by have := Htl.out; omega
            have hl2 : wr.cell? ⟨w1.heap.size, 2, none⟩ = some (.slice At ts.length ct) := cell_of_row _ _ 2 _ _ _ HH.out
            have HTV := Lib.hid hTV
            have HNB : Hid (∃ B, w.heap.size ≤ B ∧ OwnT wr B (.slice At ts.length ct) ts) := Lib.hid ⟨_, by omega, HO.out⟩
            subst hA
            clear hts hso HT HC2 hTV
            by_cases hs1 : s = 1
            · have HT3 : Hid (cr = .inr ts) := by unfold Hid; rw [HT2.out, if_neg (by omega)]
              have hb1 : (s != 1) = false := by simp [hs1]
              clear HT2 hs1
              go_wp2
              go_ret2
              rw [HT3.out]
              exact ⟨_, _, rfl, HBr.out, rfl, HTV.out, HNB.out⟩
            · have HT3 : Hid (cr = .inl (145, (ts.length - 1 : Nat), none)) := by unfold Hid; rw [HT2.out, if_pos hs1, Htl.out]
              have hb1 : (s != 1) = true := by simpa using hs1
              clear HT2 hs1
              go_wp2_with (go_at_call 45; refine (sfault_c _ _ _).mono ?_; rintro e w' ⟨rfl, rfl⟩)
              go_ret2
              rw [HT3.out]
              exact ⟨_, _, rfl, below_al HBr.out _, rfl, _, HBr.out.size, rfl, heap_at rfl⟩
  · have hC : Hid (checkF ps scope = .inl (149, -1, none)) := by unfold Hid checkF; rw [if_pos (by omega)]
    have h2 : (scope != 2) = true := by simp; omega
    have h3 : (scope != 3) = true := by simp; omega
    clear hs
    go_enter Tryz.func20, Tryz.ntmps20
    go_wp2_with (go_at_call 45; refine (sfault_c _ _ _).mono ?_; rintro e w' ⟨rfl, rfl⟩)
    go_ret2
    rw [hC.out]
    exact ⟨_, _, rfl, below_al (below_box _ _) _, rfl, _, by simp, rfl, heap_at (by simp)⟩
end Go.Proofs.YtldnkeackphilaaGreatDoor
/- norm: what older proofs show, as contracts of the calculus. -/
namespace Go.Proofs.YtldnkeackphilaaGreatDoor.X
open Go.RowKit

/-- The numbers of parts that may be. -/
structure PB (ps : List Part) : Prop where
  len : ps.length ≤ 4398046510976
  part : ∀ p ∈ ps, R64 p.kind ∧ R64 p.num ∧ p.text.size ≤ 140737488351232 ∧ p.kids.length ≤ 35184372088064 ∧ ∀ k ∈ p.kids, R64 k
theorem cell_imm {G : Gh} {w : World} (hc : CellsR G w) {g i : Nat} {v : Value} (h : G g i (.imm v)) : w.cell? ⟨g, i, none⟩ = some v := by
  obtain ⟨u, h1, _, h3⟩ := hc.get _ _ _ h
  cases h3
  exact h1
theorem glob_of {G : Gh} {w : World} (hc : CellsR G w) : Glob w := ⟨hc.gl.ml.imp fun _ h => cell_imm hc h, cell_imm hc hc.gl.et⟩
theorem ints_of {G : Gh} {w : World} (hc : CellsR G w) {v : Value} {l : List Int} (h : RS G v (intsA l)) (hl : l.length ≤ 35184372088064) (hk : ∀ k ∈ l, R64 k) : IntsV w v l := by
  unfold intsA at h
  generalize hes : l.map (fun n => [iA n]) = es at h
  have hlen : es.length = l.length := by rw [← hes]; simp
  cases h with
  | nil =>
    have : l = [] := List.eq_nil_of_length_eq_zero (by simpa using hlen.symm)
    subst this
    exact ⟨_, 0, rfl, by simp, fun j x hx => by simp at hx⟩
  | sl g o sz c _ hsz hcp hcell =>
    refine ⟨some ⟨g, o, none⟩, c, by rw [hlen], hl, fun j x hx => ⟨hk x (List.mem_of_getElem? hx), g, o, rfl, ?_⟩⟩
    have he : es[j]? = some [iA x] := by rw [← hes, List.getElem?_map, hx]; rfl
    have h1 : sz = 1 := (hsz _ (List.mem_of_getElem? he)).symm
    have h2 := cell_imm hc (hcell j _ 0 _ he rfl)
    rw [h1, Nat.mul_one, Nat.add_zero] at h2
    exact ⟨World.block_lt_of_cell? w _ h2, h2⟩
theorem parts_of {G : Gh} {w : World} (hc : CellsR G w) {v : Value} {ps : List Part} (h : RS G v (psA ps)) (hb : PB ps) : PartsV w v ps := by
  unfold psA at h
  generalize hes : ps.map pCs = es at h
  have hlen : es.length = ps.length := by rw [← hes]; simp
  cases h with
  | nil =>
    have : ps = [] := List.eq_nil_of_length_eq_zero (by simpa using hlen.symm)
    subst this
    exact ⟨_, 0, rfl, by simp, fun j x hx => by simp at hx⟩
  | sl g o sz c _ hsz hcp hcell =>
    refine ⟨some ⟨g, o, none⟩, c, by rw [hlen], hb.len, fun j p hp => ?_⟩
    obtain ⟨b1, b2, b3, b4, b5⟩ := hb.part p (List.mem_of_getElem? hp)
    have he : es[j]? = some (pCs p) := by rw [← hes, List.getElem?_map, hp]; rfl
    have h1 : sz = 4 := (hsz _ (List.mem_of_getElem? he)).symm
    subst h1
    obtain ⟨kv, k1, _, k3⟩ := hc.get _ _ _ (hcell j _ 3 (intsA p.kids) he rfl)
    exact ⟨g, o, kv, rfl, World.block_lt_of_cell? w _ k1, ⟨b1, b2, b3, ints_of hc k3 b4 b5⟩, cell_imm hc (hcell j _ 0 _ he rfl), cell_imm hc (hcell j _ 1 _ he rfl), cell_imm hc (hcell j _ 2 _ he rfl), k1⟩
/-- A function that only adds to the world. -/
theorem has_more {P : Program} {f : FuncId} {fn : Func} {c : Code} {args : List AV} {a : AV} (hf : P.funcs[f]? = some fn) (hb : fn.body = some c) (hn : (fn.name == "runtime.NumGoroutine") = false) (ha : a.final = true)
    (h : ∀ G w (vals : Array Value), CellsR G w → vals.size = args.length → (∀ (i : Nat) v b, vals[i]? = some v → args[i]? = some b → RS G v b) → Calls P f vals w fun e w' => ∃ v G', e = .returned v ∧ Below w.heap.size w w' ∧ CellsR G' w' ∧ Gle G G' ∧ (∀ g, g < w.heap.size → G' g = G g) ∧ RS G' v a) : Has P f args a noTok := by
  refine ⟨ha, fun vals w => enters_of hf hb hn vals w, fun G w vals hc hl hv => ?_⟩
  refine (h G w vals hc hl hv).mono ?_
  rintro e w' ⟨v, G', rfl, hB, hc', hle, hG, h2⟩
  refine ⟨v, G', noOm, rfl, ⟨⟨rfl, hc', fun g p hp => (by cases hp), fun t => ?_, fun t k E hE => ?_⟩, fun t k E hE => ?_⟩, hB.os, hB.tape, hB.output, hB.size, hle, fun g hg _ => ⟨hB.block g hg, hG g hg, rfl⟩⟩
  · by_cases ht : t = 0
    · subst ht
      exact .sh h2
    · have : (Go.Proofs.YtldnkeackphilaaGreatDoor.St.one a noTok).val t = .dead := by simp [Go.Proofs.YtldnkeackphilaaGreatDoor.St.one, ht]
      rw [this]
      exact .dead _
  · simp [Go.Proofs.YtldnkeackphilaaGreatDoor.St.one, noTok] at hE
  · simp [Go.Proofs.YtldnkeackphilaaGreatDoor.St.one, noTok] at hE
theorem cells_below {G : Gh} {w w' : World} (hc : CellsR G w) (hB : Below w.heap.size w w') : CellsR G w' := cells_old hc fun g ⟨i, a, hg⟩ => hB.block g (ghost_lt hc hg)
theorem valid_ok (ps : List Part) (hb : PB ps) (hv : validF ps = none) : Has Tryz.prog 19 [.agg [psA ps]] (.imm .nilIface) noTok := by
  refine has_more Tryz.func19 rfl rfl rfl fun G w vals hc hl hr => ?_
  obtain ⟨l⟩ := vals
  match l, hl with
  | [v], _ =>
    have h0 := hr 0 v (.agg [psA ps]) rfl rfl
    cases h0 with
    | agg vs _ hl1 h1 h2 =>
      obtain ⟨l⟩ := vs
      match l, hl1 with
      | [pv], _ =>
        have hp := parts_of hc (h2 0 pv _ rfl rfl) hb
        refine (valid_c ps pv w hp).mono ?_
        rintro e w' ⟨v, rfl, hv'⟩
        rw [hv] at hv'
        obtain ⟨hB, rfl⟩ := hv'
        exact ⟨_, G, rfl, hB, cells_below hc hB, .refl _, fun _ _ => rfl, .imm _ rfl⟩
theorem check_ok (ps : List Part) (scope : Int) (hsc : R64 scope) (hb : PB ps) (ts : List (Int × Int)) (hv : checkF ps scope = .inr ts) : Has Tryz.prog 20 [.agg [psA ps], iA scope] (.tup [.sl (ts.map fun t => [iA t.1, iA t.2]), .imm .nilIface]) noTok := by
  refine has_more Tryz.func20 rfl rfl rfl fun G w vals hc hl hr => ?_
  obtain ⟨l⟩ := vals
  match l, hl with
  | [v, sc], _ =>
    have h0 := hr 0 v (.agg [psA ps]) rfl rfl
    have hs := hr 1 sc (iA scope) rfl rfl
    cases hs
    cases h0 with
    | agg vs _ hl1 h1 h2 =>
      obtain ⟨l⟩ := vs
      match l, hl1 with
      | [pv], _ =>
        have hp := parts_of hc (h2 0 pv _ rfl rfl) hb
        refine (check_c ps pv scope w hp (glob_of hc) hsc).mono ?_
        rintro e w' ⟨tv, ev, rfl, hv'⟩
        rw [hv] at hv'
        obtain ⟨hB, rfl, hT, B, hwB, hO⟩ := hv'
        have hc' := cells_below hc hB
        have htup : ∀ {G' : Gh} {tv : Value}, RS G' tv (.sl (ts.map fun t => [iA t.1, iA t.2])) → RS G' (.tuple #[tv, .nilIface]) (.tup [.sl (ts.map fun t => [iA t.1, iA t.2]), .imm .nilIface]) := fun h => .tup _ _ rfl fun j v a h1 h2 => by
          match j with
          | 0 => cases h1; cases h2; exact h
          | 1 => cases h1; cases h2; exact .imm _ rfl
          | j + 2 => simp at h1
        rcases id hO with ⟨hx, ⟨rfl, h0⟩ | ⟨g, cap, cur, rfl, hg, hh, hcap, -⟩⟩
        · have : ts = [] := List.eq_nil_of_length_eq_zero h0
          subst this
          exact ⟨_, G, rfl, hB, hc', .refl _, fun _ _ => rfl, htup .nil⟩
        · have hle := gset_le G g fun j => ((tcells ts)[j]?).map AV.imm
          refine ⟨_, gset G g fun j => ((tcells ts)[j]?).map AV.imm, rfl, hB, ⟨fun g0 i a hga => ?_, hc.gl.mono hle⟩, hle, fun g0 hg0 => gset_ne _ _ (by omega), htup ?_⟩
          · rcases hga with hga | ⟨rfl, hga⟩
            · obtain ⟨v, k1, k2, k3⟩ := hc'.get _ _ _ hga
              exact ⟨v, k1, k2, k3.mono hle⟩
            · obtain ⟨u, hu, rfl⟩ := Option.map_eq_some_iff.1 hga
              have hcell := World.ownsRow.cells hO (g := g0) rfl i u hu
              rw [Addr.add_mid, Nat.zero_add] at hcell
              refine ⟨u, hcell, ?_⟩
              have hone : u.oneCell' = true := by
                have := List.mem_of_getElem? hu
                simp only [tcells, List.mem_flatMap] at this
                obtain ⟨t, _, ht⟩ := this
                simp at ht
                rcases ht with rfl | rfl <;> rfl
              exact ⟨hone, .imm _ hone⟩
          · have hlen : ts.length = (ts.map fun t => [iA t.1, iA t.2]).length := by simp
            rw [hlen]
            refine .sl g 0 2 cap _ (fun e he => ?_) (by simpa using hcap) fun i e j a he ha => .inr ⟨rfl, ?_⟩
            · obtain ⟨t, _, rfl⟩ := List.mem_map.1 he
              rfl
            · rw [List.getElem?_map] at he
              obtain ⟨t, ht, rfl⟩ := Option.map_eq_some_iff.1 he
              obtain ⟨k1, k2⟩ := tcells_at ts i t ht
              match j with
              | 0 => cases ha; simp [k1]
              | 1 => cases ha; simp [k2]
              | j + 2 => simp at ha
end Go.Proofs.YtldnkeackphilaaGreatDoor.X
/- norm: how trees are written as lists, in plain Lean. -/
namespace Go.Proofs.YtldnkeackphilaaGreatDoor

/-- The literal with its selector's place n. -/
def LitD.at_ (l : LitD) (n : Int) : LitD := if l.kind = 7 then { l with sel := n } else { l with term := { l.term with sel := n } }
mutual
/-- lister.write: the list and the selectors behind it. -/
def writeT : Tr → List PartD → List (List PartD) → List PartD × List (List PartD)
  | .mk kind neg lit kids sel, list, sels =>
    let r := writeKs kids list sels []
    match sel with
    | none => (r.1 ++ [⟨kind, neg, lit, r.2.2⟩], r.2.1)
    | some t => let q := writeT t [] r.2.1; (r.1 ++ [⟨kind, neg, lit.at_ r.2.1.length, r.2.2⟩], q.2 ++ [q.1])
/-- Its kids, one behind the other; their places. -/
def writeKs : List Tr → List PartD → List (List PartD) → List Int → List PartD × List (List PartD) × List Int
  | [], list, sels, at_ => (list, sels, at_)
  | t :: r, list, sels, at_ => let q := writeT t list sels; writeKs r q.1 q.2 (at_ ++ [(q.1.length : Int) - 1])
end
mutual
/-- How many trees there are in it. -/
def cntT : Tr → Nat
  | .mk _ _ _ kids sel => 1 + cntKs kids + (match sel with | none => 0 | some t => cntT t)
def cntKs : List Tr → Nat
  | [] => 0
  | t :: r => cntT t + cntKs r
end
def stepK (x : List PartD × List (List PartD) × List Int) (t : Tr) : List PartD × List (List PartD) × List Int :=
  ((writeT t x.1 x.2.1).1, (writeT t x.1 x.2.1).2, x.2.2 ++ [((writeT t x.1 x.2.1).1.length : Int) - 1])
theorem writeKs_fold : ∀ (l : List Tr) (list : List PartD) (sels : List (List PartD)) (at_ : List Int), writeKs l list sels at_ = l.foldl stepK (list, sels, at_)
  | [], _, _, _ => by simp [writeKs]
  | t :: r, list, sels, at_ => by simp only [writeKs, List.foldl_cons]; rw [writeKs_fold r]; rfl
theorem writeT_eq (t : Tr) (list : List PartD) (sels : List (List PartD)) : writeT t list sels =
    match t.sel with
    | none => ((t.kids.foldl stepK (list, sels, [])).1 ++ [⟨t.kind, t.neg, t.lt, (t.kids.foldl stepK (list, sels, [])).2.2⟩], (t.kids.foldl stepK (list, sels, [])).2.1)
    | some u => ((t.kids.foldl stepK (list, sels, [])).1 ++ [⟨t.kind, t.neg, t.lt.at_ (t.kids.foldl stepK (list, sels, [])).2.1.length, (t.kids.foldl stepK (list, sels, [])).2.2⟩],
        (writeT u [] (t.kids.foldl stepK (list, sels, [])).2.1).2 ++ [(writeT u [] (t.kids.foldl stepK (list, sels, [])).2.1).1]) := by
  obtain ⟨k, neg, l, kids, sel⟩ := t
  cases sel <;> simp only [writeT, writeKs_fold, Tr.kind, Tr.neg, Tr.lt, Tr.kids, Tr.sel]
mutual
theorem write_len : ∀ (t : Tr) (list : List PartD) (sels : List (List PartD)), (writeT t list sels).1.length ≤ list.length + cntT t ∧ (writeT t list sels).2.length ≤ sels.length + cntT t
  | .mk kind neg lit kids none, list, sels => by
    have := writeKs_len kids list sels []
    simp only [writeT, cntT, List.length_append, List.length_cons, List.length_nil]
    omega
  | .mk kind neg lit kids (some t), list, sels => by
    have h1 := writeKs_len kids list sels []
    have h2 := write_len t [] (writeKs kids list sels []).2.1
    simp only [writeT, cntT, List.length_append, List.length_cons, List.length_nil] at *
    have : 1 ≤ cntT t := by obtain ⟨_, _, _, _, sel⟩ := t; cases sel <;> simp only [cntT] <;> omega
    omega
theorem writeKs_len : ∀ (l : List Tr) (list : List PartD) (sels : List (List PartD)) (at_ : List Int), (writeKs l list sels at_).1.length ≤ list.length + cntKs l ∧ (writeKs l list sels at_).2.1.length ≤ sels.length + cntKs l
  | [], _, _, _ => by simp [writeKs, cntKs]
  | t :: r, list, sels, at_ => by
    have h1 := write_len t list sels
    have h2 := writeKs_len r (writeT t list sels).1 (writeT t list sels).2 (at_ ++ [((writeT t list sels).1.length : Int) - 1])
    simp only [writeKs, cntKs]
    omega
end
theorem cntKs_take : ∀ (l : List Tr) (i : Nat) (h : i < l.length), cntKs (l.take i) + cntT l[i] ≤ cntKs l
  | t :: r, 0, _ => by simp [cntKs]
  | t :: r, i + 1, h => by have := cntKs_take r i (by simpa using h); simp only [List.take_succ_cons, cntKs, List.getElem_cons_succ]; omega
theorem cnt_one (t : Tr) : 1 ≤ cntT t := by obtain ⟨_, _, _, _, sel⟩ := t; cases sel <;> simp only [cntT] <;> omega
theorem cnt_kids (t : Tr) : cntT t = 1 + cntKs t.kids + (match t.sel with | none => 0 | some u => cntT u) := by obtain ⟨_, _, _, _, sel⟩ := t; cases sel <;> simp only [cntT, Tr.kids, Tr.sel] <;> omega
end Go.Proofs.YtldnkeackphilaaGreatDoor
