/- sorts: Check. -/
import Derived.Test.YtldnkeackphilaaGreatDoorNd16
import Derived.Deep.RegionHeld3
import Derived.Deep.AppendLies
import Derived.Deep.RegionLaw
import Derived.Test.YtldnkeackphilaaGreatDoorNd14
set_option linter.unusedSimpArgs false
set_option linter.unusedVariables false
set_option linter.unusedSectionVars false
namespace Go.Proofs.YtldnkeackphilaaGreatDoor
open Go.RowKit

def typesGo (ps : List Part) (sc : List Int) : List Part → Nat → List (Int × Int) → (Int × Int) ⊕ List (Int × Int)
  | [], _, ts => .inr ts
  | p :: r, i, ts => match typeF ps sc ts i p with
    | .inl f => .inl f
    | .inr t => typesGo ps sc r (i + 1) (ts ++ [t])
def checkF (ps : List Part) (scope : Int) : (Int × Int × Option Int) ⊕ List (Int × Int) :=
  if scope ≠ 2 ∧ scope ≠ 3 then .inl (149, -1, none) else
  match validF ps with
  | some (c, pl) => .inl (140, pl, some c)
  | none => match typesGo ps (scopesF ps scope) ps 0 [] with
    | .inl (c, pl) => .inl (c, pl, none)
    | .inr ts => if sortAt ts (ps.length - 1 : Nat) ≠ 1 then .inl (145, (ps.length - 1 : Nat), none) else .inr ts
def tcells (ts : List (Int × Int)) : List Value := ts.flatMap fun t => [.int .i64 t.1, .int .i64 t.2]
abbrev OwnT (w : World) (B : Nat) (tv : Value) (ts : List (Int × Int)) : Prop := w.ownsRow B 129 2 tv ts.length (tcells ts)
def ChkV (w : World) (r : (Int × Int × Option Int) ⊕ List (Int × Int)) (tv ev : Value) (w' : World) : Prop := Below w.heap.size w w' ∧
  match r with
  | .inr ts => ev = .nilIface ∧ TypesV w' tv ts ∧ ∃ B, w.heap.size ≤ B ∧ OwnT w' B tv ts
  | .inl (c, pl, none) => tv = .slice none 0 0 ∧ ∃ b, w.heap.size ≤ b ∧ ev = .iface 114 (.pointer (some ⟨b, 0, none⟩)) ∧ w'.heap[b]? = some (.cells #[.int .i64 c, .int .i64 pl, .string ⟨#[]⟩, .nilIface] 118)
  | .inl (c, pl, some k) => tv = .slice none 0 0 ∧ ∃ b b2, ev = .iface 114 (.pointer (some ⟨b, 0, none⟩)) ∧ w'.heap[b]? = some (.cells #[.int .i64 c, .int .i64 pl, .string ⟨#[]⟩, .iface 114 (.pointer (some ⟨b2, 0, none⟩))] 118) ∧
      w'.heap[b2]? = some (.cells #[.int .i64 k, .int .i64 pl, .string ⟨#[]⟩, .nilIface] 118)
def ChkP (w : World) (r : (Int × Int × Option Int) ⊕ List (Int × Int)) (e : Ending) (w' : World) : Prop := ∃ tv ev, e = .returned (.tuple #[tv, ev]) ∧ ChkV w r tv ev w'
theorem tcells_at : ∀ (ts : List (Int × Int)) (j : Nat) (t : Int × Int), ts[j]? = some t → (tcells ts)[j * 2]? = some (.int .i64 t.1) ∧ (tcells ts)[j * 2 + 1]? = some (.int .i64 t.2) := by
  intro ts
  induction ts with
  | nil => intro j t h; simp at h
  | cons u r ih =>
    intro j t h
    rcases j with _ | j
    · simp at h
      subst h
      exact ⟨rfl, rfl⟩
    · have := ih j t (by simpa using h)
      rw [show (j + 1) * 2 = j * 2 + 1 + 1 from by omega]
      exact this
theorem ownT_reads {w : World} {B : Nat} {tv : Value} {ts : List (Int × Int)} (h : OwnT w B tv ts) (hl : ts.length ≤ 4398046510976) : TypesV w tv ts := by
  obtain ⟨A, c, rfl, -, -⟩ := own_none h
  refine ⟨A, c, rfl, hl, fun j t hj => ?_⟩
  have hjl := (List.getElem?_eq_some_iff.1 hj).1
  obtain ⟨g, c', he, hb, hlt, hc⟩ := own_cells h (by omega)
  injection he with he
  subst he
  obtain ⟨h1, h2⟩ := tcells_at ts j t hj
  exact ⟨g, 0, rfl, hlt, by simpa using hc _ _ h1, by simpa using hc _ _ h2⟩
theorem Tryz.info_type : (Tryz.prog.info? 129).map (fun i => (i.zero, i.size, i.bytes)) = some (some (.agg #[.int .i64 0, .int .i64 0]), 2, 16) := by kernel_rfl
theorem typesGo_step {ps : List Part} {sc : List Int} {k : Nat} {p : Part} {ts : List (Int × Int)} (h : ps[k]? = some p) : typesGo ps sc (ps.drop k) k ts = match typeF ps sc ts k p with
    | .inl f => .inl f
    | .inr t => typesGo ps sc (ps.drop (k + 1)) (k + 1) (ts ++ [t]) := by
  obtain ⟨hk, rfl⟩ := List.getElem?_eq_some_iff.1 h
  rw [List.drop_eq_getElem_cons hk, typesGo]
theorem check_next {w w2 W wa : World} {lb g cap : Nat} {tv a b : Value} {ts : List (Int × Int)} {T : TypeId} {s d : Int} (HO : OwnT W w2.heap.size tv ts) (HB : Below w.heap.size w W) (HG : w2.grownBy W (some lb)) (HH : W.heap[lb]? = some (.cells #[a, b, tv] T (0, 0)))
    (h1 : lb < w2.heap.size) (h2 : w.heap.size ≤ lb) (o : Obj) (hown : wa.ownsRow w2.heap.size 129 2 (.slice (some ⟨g, 0, none⟩) (ts.length + 1) cap) (ts.length + 1) (tcells ts ++ [.int .i64 s, .int .i64 d])) (hgrow : (W.alloc o).drew.grownBy wa tv.ownBlock) :
    (wa.setCell ⟨lb, 2, none⟩ (.slice (some ⟨g, 0, none⟩) (ts.length + 1) cap)).heap[lb]? = some (.cells #[a, b, .slice (some ⟨g, 0, none⟩) (ts.length + 1) cap] T (0, 0)) ∧
    OwnT (wa.setCell ⟨lb, 2, none⟩ (.slice (some ⟨g, 0, none⟩) (ts.length + 1) cap)) w2.heap.size (.slice (some ⟨g, 0, none⟩) (ts.length + 1) cap) (ts ++ [(s, d)]) ∧
    Below w.heap.size w (wa.setCell ⟨lb, 2, none⟩ (.slice (some ⟨g, 0, none⟩) (ts.length + 1) cap)) ∧ w2.grownBy (wa.setCell ⟨lb, 2, none⟩ (.slice (some ⟨g, 0, none⟩) (ts.length + 1) cap)) (some lb) := by
  have hrow : ∀ k, tv.ownBlock = some k → w2.heap.size ≤ k := fun k hk => (World.ownsRow.lt HO k hk).1
  have hs := HG.size
  have hlW : lb < W.heap.size := by omega
  have hx : w2.grownBy (W.alloc o).drew (some lb) := grown_dr (HG.trans (World.grownBy_alloc _ _ _)) 1
  have hgl : g ≠ lb := by have := (World.ownsRow.lt hown g rfl).1; omega
  refine ⟨?_, ?_, ?_, grown_set (grown_own hx hgrow hrow) (.inl rfl) _⟩
  · have e : wa.heap[lb]? = some (.cells #[a, b, tv] T (0, 0)) := (hgrow.block lb (by simp; omega) (fun e => by have := hrow lb e.symm; omega)).trans (heap_al HH)
    exact blk_set e 2 _
  · have e : tcells (ts ++ [(s, d)]) = tcells ts ++ [.int .i64 s, .int .i64 d] := by simp [tcells]
    unfold OwnT
    rw [e, List.length_append]
    exact World.ownsRow.kept (row := some lb) hown (grown_set (World.grownBy.refl wa _) (.inl rfl) _) (.inr (by simp [Value.ownBlock, hgl]))
  · exact Below.setCell ((below_dr (below_al HB o)).grown hgrow (by have := HB.size; simp; omega) (fun k hk => by have := hrow k hk; omega)) h2 _
theorem as_new (e : Addr) (W : World) (hG : Glob W) : Calls Tryz.prog 43 #[.iface 114 (.pointer (some e)), .iface 116 (.pointer (some ⟨W.heap.size, 0, none⟩))] (W.alloc (.cells #[.pointer none] 114)) fun ev w' =>
    ev = .returned (.bool true) ∧ Below W.heap.size W w' ∧ W.heap.size < w'.heap.size ∧ w'.heap[W.heap.size]? = some (.cells #[.pointer (some e)] 114 (0, 0)) := by
  have hb := heap_alloc_new W (.cells #[.pointer none] 114)
  refine (as_hit e ⟨W.heap.size, 0, none⟩ (.pointer none) _ (hG.below (below_box W _)).et (cell_of_row _ _ 0 _ _ _ hb) (by unfold World.frozen?; rw [hb]; simp)).mono ?_
  rintro ev w' ⟨rfl, rfl⟩
  refine ⟨rfl, Below.setCell (below_al (below_al (below_al (below_al (below_box W _) _) _) _) _) (Nat.le_refl _) _, by simp [World.setCell]; omega, ?_⟩
  exact blk_set (heap_al (heap_al (heap_al (heap_al hb)))) 0 _
set_option maxHeartbeats 4000000 in
set_option maxRecDepth 100000 in
theorem check_c (ps : List Part) (pv : Value) (scope : Int) (w : World) (hp : PartsV w pv ps) (hG : Glob w) (hsc : R64 scope) : Calls Tryz.prog 20 #[.agg #[pv], .int .i64 scope] w (ChkP w (checkF ps scope)) := by
  have hp1 : Hid (PartsV (w.alloc (.cells #[pv] 30)) pv ps) := hp.below (below_box _ _)
  have hG1 : Hid (Glob (w.alloc (.cells #[pv] 30))) := hG.below (below_box _ _)
  have HP := Lib.hid hp
  have HG0 := Lib.hid hG
  obtain ⟨A, c, rfl, hlen, hps⟩ := hp
  clear hps hG
  by_cases hs : scope = 2 ∨ scope = 3
  · have HC : Hid (checkF ps scope = match validF ps with
      | some (c, pl) => .inl (140, pl, some c)
      | none => match typesGo ps (scopesF ps scope) ps 0 [] with
        | .inl (c, pl) => .inl (c, pl, none)
        | .inr ts => if sortAt ts (ps.length - 1 : Nat) ≠ 1 then .inl (145, (ps.length - 1 : Nat), none) else .inr ts) := by unfold Hid checkF; rw [if_neg (by omega)]
    cases hv : validF ps with
    | some q =>
      obtain ⟨cd, pl⟩ := q
      have HC2 : Hid (checkF ps scope = .inl (140, pl, some cd)) := by unfold Hid; rw [HC.out, hv]
      have Hv := Lib.hid hv
      clear HC hv
      rcases hs with rfl | rfl
      all_goals
        go_enter Tryz.func20, Tryz.ntmps20
        go_wp2_with fail
        refine (valid_c ps _ _ hp1.out).mono ?_
        rw [Hv.out]
        rintro e w1 ⟨v, rfl, hB, b, rfl, hb1, hb2⟩
        have HB : Below w.heap.size w w1 := (below_box w _).trans (hB.mono (by simp))
        have hg := Lib.hid (hG1.out.below hB)
        have Hb2 := Lib.hid hb2
        clear hB hb2
        go_wp2_with fail
        refine (as_new ⟨b, 0, none⟩ w1 hg.out).mono ?_
        rintro e w2 ⟨rfl, hB2, hs2, ht⟩
        have HB2 : Below w.heap.size w w2 := below_then HB HB.size hB2
        have hb3 : w2.heap[b]? = some (.cells #[.int .i64 cd, .int .i64 pl, .string ⟨#[]⟩, .nilIface] 118 (0, 0)) := (hB2.block b (Array.getElem?_eq_some_iff.1 Hb2.out).1).trans Hb2.out
        have hf1 : w2.cell? ⟨b, 1, none⟩ = some (.int .i64 pl) := cell_of_row _ _ 1 _ _ _ hb3
        have hf2 : w2.cell? ⟨w1.heap.size, 0, none⟩ = some (.pointer (some ⟨b, 0, none⟩)) := cell_of_row _ _ 0 _ _ _ ht
        have Hb3 := Lib.hid hb3
        clear hB2 hb3 ht Hb2
        go_wp2
        go_region
        go_wp2
        go_ret2
        rw [HC2.out]
        exact ⟨_, _, rfl, below_dr (below_al HB2 _), rfl, _, b, rfl, heap_at rfl, heap_al Hb3.out⟩
    | none =>
      have hwf : WF ps := by
        unfold validF at hv
        split at hv
        · cases hv
        · exact wf_of_shape (by assumption)
      have HC2 : Hid (checkF ps scope = match typesGo ps (scopesF ps scope) ps 0 [] with
        | .inl (c, pl) => .inl (c, pl, none)
        | .inr ts => if sortAt ts (ps.length - 1 : Nat) ≠ 1 then .inl (145, (ps.length - 1 : Nat), none) else .inr ts) := by unfold Hid; rw [HC.out, hv]
      have Hv := Lib.hid hv
      have HWF := Lib.hid hwf
      have hpos := hwf.pos
      have hle := hwf.le
      have hsb : scope = 2 ∨ scope = 3 := hs
      clear HC hv hwf hs
      generalize checkF ps scope = cr at *
      rcases hsb with rfl | rfl
      all_goals
        go_enter Tryz.func20, Tryz.ntmps20
        go_wp2_with fail
        refine (valid_c ps _ _ hp1.out).mono ?_
        rw [Hv.out]
        rintro e w1 ⟨v, rfl, hB, rfl⟩
        have HB : Below w.heap.size w w1 := (below_box w _).trans (hB.mono (by simp))
        have ht2 : w1.cell? ⟨w.heap.size, 0, none⟩ = some (.slice A ps.length c) := by
          rw [(bcell hB).1 _ _ (by simp)]; simp
        clear hB
        have hsz1 : w.heap.size < w1.heap.size := World.block_lt_of_cell? _ _ ht2
        go_wp2_with fail
        have hlb := heap_alloc_new w1 (.cells #[.slice A ps.length c, .slice none 0 0, .slice none 0 0] 125)
        refine (spread_c w1.heap.size _ ps _ w (w1.alloc (.cells #[.slice A ps.length c, .slice none 0 0, .slice none 0 0] 125)) HP.out HWF.out (below_al HB _) HB.size hsc hlb).mono ?_
        rintro e w2 ⟨rfl, hl, hI, hgr⟩
        have HB2 : Below w.heap.size w w2 := (below_al HB (.cells #[.slice A ps.length c, .slice none 0 0, .slice none 0 0] 125)).grown hgr (by simp; omega) (fun k hk => by cases hk; exact HB.size)
        have hl0 : w2.cell? ⟨w1.heap.size, 0, none⟩ = some (.slice A ps.length c) := cell_of_row _ _ 0 _ _ _ hl
        have hsz2 : w1.heap.size + 1 ≤ w2.heap.size := by have := hgr.size; simpa using this
        have Hl := Lib.hid hl
        have HI := Lib.hid hI
        simp only [World.size_alloc] at HI Hl
        clear hl hI hgr hlb ht2
        go_wp2
        clear hl0
        generalize hscv : scopesF ps _ = sc at *
        have hscl : sc.length = ps.length := by rw [← hscv]; exact scopesF_len ps _
        have Hscl := Lib.hid hscl
        clear hscv hscl
        have hlt1 : w1.heap.size < w2.heap.size := by omega
        have hlt2 : w1.heap.size + 1 < w2.heap.size := by
          obtain ⟨-, b, o, hA, hblt, -⟩ := HI.out.get 0 _ (List.getElem?_eq_getElem (show 0 < sc.length by have := Hscl.out; omega))
          have : w1.heap.size + 1 = b := by injection hA with hA; injection hA
          omega
        go_loopw [49] (fun i wr => ∃ (k : Nat) (ts : List (Int × Int)) (tv : Value), k ≤ ps.length ∧ i = .int .i64 k ∧ Hid (ts.length = k) ∧ Hid (wr.heap[w1.heap.size]? = some (.cells #[.slice A ps.length c, .slice (some ⟨w1.heap.size + 1, 0, none⟩) ps.length ps.length, tv] 125 (0, 0))) ∧ Hid (OwnT wr w2.heap.size tv ts) ∧ Hid (Below w.heap.size w wr) ∧ Hid (w2.grownBy wr (some w1.heap.size)) ∧ Hid (typesGo ps sc ps 0 [] = typesGo ps sc (ps.drop k) k ts)) (fun i wr => ps.length - (intOf i).toNat)
        case atStart => exact ⟨0, [], _, Nat.zero_le _, rfl, rfl, Hl, World.ownsRow_nil _ _ _ _, HB2, World.grownBy.refl _ _, rfl⟩
        case round =>
          obtain ⟨k, ts, tv, hk, rfl, Htl, HH, HO, HBr, HGr, HT⟩ := hrel
          obtain ⟨At, ct, rfl, hn63, hnc⟩ := own_none HO.out
          by_cases hlt : k < ps.length
          · have hget : ps[k]? = some ps[k] := List.getElem?_eq_getElem hlt
            have HL : Look wr w1.heap.size (.slice A ps.length c) (.slice (some ⟨w1.heap.size + 1, 0, none⟩) ps.length ps.length) (.slice At ts.length ct) ps sc ts :=
              ⟨cell_of_row _ _ 0 _ _ _ HH.out, cell_of_row _ _ 1 _ _ _ HH.out, cell_of_row _ _ 2 _ _ _ HH.out, (Array.getElem?_eq_some_iff.1 HH.out).1, HP.out.below HBr.out, HI.out.blk (HGr.out.block _ (by omega) (by simp)) HGr.out.size, ownT_reads HO.out (by have := Htl.out; omega)⟩
            have hkid : ∀ x ∈ ps[k].kids, 0 ≤ x ∧ x < ts.length := by rw [Htl.out]; exact HWF.out.kids k _ hget
            have hpc := part_c w1.heap.size _ _ _ ps sc ts k _ wr HL hget hkid (by have := Hscl.out; omega) (HWF.out.fits k _ hget) (by have := Htl.out; omega) (HG0.out.below HBr.out)
            have Hpc := Lib.hid hpc
            have Hget := Lib.hid hget
            clear hpc HL hkid hget
            generalize ps[k] = p at *
            have hlw : w1.heap.size < wr.heap.size := (Array.getElem?_eq_some_iff.1 HH.out).1
            cases ht : typeF ps sc ts k p with
            | inl f =>
              obtain ⟨cd, pl⟩ := f
              have HC3 : Hid (cr = .inl (cd, pl, none)) := by rw [HC2.out, HT.out, typesGo_step Hget.out, ht]; rfl
              rw [ht] at Hpc
              clear ht HT HC2
              go_wp2_with fail
              refine Hpc.out.mono ?_
              rintro e w3 ⟨s, d, fv, rfl, hB3, b, rfl, hb1, hb2⟩
              have Hb2 := Lib.hid hb2
              have HB3 := Lib.hid (below_then HBr.out HBr.out.size hB3)
              clear hb2 hB3
              go_wp2
              go_ret2
              rw [HC3.out]
              exact ⟨_, _, rfl, below_al HB3.out _, rfl, b, Nat.le_trans HBr.out.size hb1, rfl, heap_al Hb2.out⟩
            | inr t =>
              have HT2 : Hid (typesGo ps sc ps 0 [] = typesGo ps sc (ps.drop (k + 1)) (k + 1) (ts ++ [t])) := by unfold Hid; rw [HT.out, typesGo_step Hget.out, ht]
              rw [ht] at Hpc
              clear ht HT
              go_wp2_with fail
              refine Hpc.out.mono ?_
              rintro e w3 ⟨s, d, fv, rfl, ⟨hB3, rfl⟩, rfl⟩
              have HB3 := Lib.hid (below_then HBr.out HBr.out.size hB3)
              have HH3 : Hid (w3.heap[w1.heap.size]? = _) := (hB3.block _ hlw).trans HH.out
              have HO3 : Hid (OwnT w3 w2.heap.size (.slice At ts.length ct) ts) := own_below HO.out hB3
              have HGr3 : Hid (w2.grownBy w3 (some w1.heap.size)) := HGr.out.trans ⟨hB3.os, hB3.tape, hB3.output, hB3.size, fun i hi _ => hB3.block i hi⟩
              have hl2 : w3.cell? ⟨w1.heap.size, 2, none⟩ = some (.slice At ts.length ct) := cell_of_row _ _ 2 _ _ _ HH3.out
              have hf2 : w3.frozen? ⟨w1.heap.size, 2, none⟩ = false := by unfold World.frozen?; rw [HH3.out]; simp
              have hlw3 : w1.heap.size < w3.heap.size := by have := hB3.size; omega
              clear hB3 HH HO HGr HBr
              have ag : (Value.slice At ts.length ct).ownBlock ≠ some w1.heap.size := fun e => by have := (World.ownsRow.lt HO3.out _ e).1; omega
              have ak : (Value.slice At ts.length ct).ownBlock ≠ some w3.heap.size := fun e => by have := (World.ownsRow.lt HO3.out _ e).2; omega
              have Hag := Lib.hid ag
              have Hak := Lib.hid ak
              clear ag ak
              go_wp2_with fail
              have hcs := heap_alloc_new w3 (.cells #[.int .i64 s, .int .i64 d] 129)
              have hc0 := cell_of_row _ _ 0 _ _ _ hcs
              have hc1 := cell_of_row _ _ 1 _ _ _ hcs
              have hfz := fun i => show (w3.alloc (.cells #[.int .i64 s, .int .i64 d] 129)).frozen? ⟨w3.heap.size, i, none⟩ = false by unfold World.frozen?; rw [hcs]; simp
              have HO4 : Hid (OwnT (w3.alloc (.cells #[.int .i64 s, .int .i64 d] 129)) w2.heap.size (.slice At ts.length ct) ts) := own_below HO3.out (below_box _ _)
              have HB4 : Hid (Below w.heap.size w (w3.alloc (.cells #[.int .i64 s, .int .i64 d] 129))) := below_al HB3.out _
              have HGr4 : Hid (w2.grownBy (w3.alloc (.cells #[.int .i64 s, .int .i64 d] 129)) (some w1.heap.size)) := HGr3.out.trans (World.grownBy_alloc _ _ _)
              have HH4 := Lib.hid (heap_al (o' := .cells #[.int .i64 s, .int .i64 d] 129) HH3.out)
              have hsz4 : (w3.alloc (.cells #[.int .i64 s, .int .i64 d] 129)).heap.size = w3.heap.size + 1 := by simp
              generalize w3.alloc (.cells #[.int .i64 s, .int .i64 d] 129) = W at *
              have hl2 : W.cell? ⟨w1.heap.size, 2, none⟩ = some (.slice At ts.length ct) := cell_of_row _ _ 2 _ _ _ HH4.out
              have hf2 : W.frozen? ⟨w1.heap.size, 2, none⟩ = false := by unfold World.frozen?; rw [HH4.out]; simp
              have hlw4 : w1.heap.size < W.heap.size := by omega
              have hlw5 : w3.heap.size < W.heap.size := by omega
              have hlw6 : w2.heap.size ≤ W.heap.size := HGr4.out.size
              have hkt : ts.length ≤ 1000 := by have := Htl.out; omega
              obtain ⟨i0, hi0, hz0, hz1, hz2⟩ := info_parts Tryz.info_type
              clear hcs HO3 HB3 HGr3 HH3 hlw3 hsz4
              have hnn := World.new_ne W ⟨w1.heap.size, 2, none⟩ hl2
              go_region_law ((refine step_append_lies _ (by rfl) _ _ _ (by rfl) w2.heap.size 129 i0 _ 2 16 Tryz.underlying46 hi0 hz0 hz1 hz2 rfl (by omega) (.slice At ts.length ct) ts.length (tcells ts) (by rfl) ((HO4.out.alloc _).drew) ⟨W.heap.size, 0, none⟩ 1 1 [.int .i64 s, .int .i64 d] (by rfl) (by rfl) (World.news_of_block (cs := #[.int .i64 s, .int .i64 d]) (t := 129) (fr := (0, 0)) (heap_alloc_new W _)) (by simp [Value.oneCell']) (by omega) (by simp only [maxLen]; omega) (by omega) (by simp; omega) (W.heap.size + 1) (by simp) ?_; intro gg cap wa hown1 hgrow hat hlt'; have hfw : wa.frozen? ⟨w1.heap.size, 2, none⟩ = false := (hgrow.frozen_far _ (by simp; omega) (Ne.symm Hag.out)).trans (frozen_dr (frozen_al hlw4 hf2)); have hcw : wa.cell? ⟨w1.heap.size, 2, none⟩ = some (.slice At ts.length ct) := (hgrow.cell_far _ (by simp; omega) (Ne.symm Hag.out)).trans (cell_dr (cell_al hl2))))
              all_goals
                obtain ⟨HH5, HO5, HB5, HG5⟩ := check_next HO4.out HB4.out HGr4.out HH4.out hlt1 (by omega) _ hown1 hgrow
                have HH6 := Lib.hid HH5
                have HO6 := Lib.hid HO5
                have HB6 := Lib.hid HB5
                have HG6 := Lib.hid HG5
                clear HH5 HO5 HB5 HG5 hown1 hgrow hat hfw hcw
                generalize wa.setCell ⟨w1.heap.size, 2, none⟩ (.slice (some ⟨gg, 0, none⟩) (ts.length + 1) cap) = W9 at *
                go_wp2
                go_roundw
                case rel => exact ⟨k + 1, ts ++ [(s, d)], _, by omega, by go_num, by unfold Hid; rw [List.length_append, Htl.out]; rfl, HH6, HO6, HB6, HG6, HT2⟩
                case measure => simp [intOf]; try omega
          · have hkn : k = ps.length := by omega
            subst hkn
            have hTV := ownT_reads HO.out (by have := Htl.out; omega)
            obtain ⟨⟨s, d⟩, hts⟩ : ∃ t, ts[ts.length - 1]? = some t := ⟨_, List.getElem?_eq_getElem (by have := Htl.out; omega)⟩
            obtain ⟨g, o, hA, hgl, hts0, -⟩ := hTV.get hts
            have hso : Hid (sortAt ts (ps.length - 1 : Nat) = s) := by
              unfold Hid
              rw [← Htl.out]
              exact sortAt_nat hts
            have HT2 : Hid (cr = if s ≠ 1 then .inl (145, (ps.length - 1 : Nat), none) else .inr ts) := by
              unfold Hid
              rw [HC2.out, HT.out, List.drop_length, typesGo]
              simp only [hso.out]
            have hi1 : ((ts.length : Int) - 1) = ((ts.length - 1 : Nat) : Int) := by have := Htl.out; omega
            have hi2 : (0 : Int) ≤ ((ts.length - 1 : Nat) : Int) := by omega
            have hi3 : ((ts.length - 1 : Nat) : Int) < (ts.length : Int) := by have := Htl.out; omega
            have hl2 : wr.cell? ⟨w1.heap.size, 2, none⟩ = some (.slice At ts.length ct) := cell_of_row _ _ 2 _ _ _ HH.out
            have HTV := Lib.hid hTV
            have HNB : Hid (∃ B, w.heap.size ≤ B ∧ OwnT wr B (.slice At ts.length ct) ts) := Lib.hid ⟨_, by omega, HO.out⟩
            subst hA
            clear hts hso HT HC2 hTV
            by_cases hs1 : s = 1
            · have HT3 : Hid (cr = .inr ts) := by unfold Hid; rw [HT2.out, if_neg (by omega)]
              have hb1 : (s != 1) = false := by simp [hs1]
              clear HT2 hs1
              go_wp2
              go_ret2
              rw [HT3.out]
              exact ⟨_, _, rfl, HBr.out, rfl, HTV.out, HNB.out⟩
            · have HT3 : Hid (cr = .inl (145, (ts.length - 1 : Nat), none)) := by unfold Hid; rw [HT2.out, if_pos hs1, Htl.out]
              have hb1 : (s != 1) = true := by simpa using hs1
              clear HT2 hs1
              go_wp2_with (go_at_call 45; refine (sfault_c _ _ _).mono ?_; rintro e w' ⟨rfl, rfl⟩)
              go_ret2
              rw [HT3.out]
              exact ⟨_, _, rfl, below_al HBr.out _, rfl, _, HBr.out.size, rfl, heap_at rfl⟩
  · have hC : Hid (checkF ps scope = .inl (149, -1, none)) := by unfold Hid checkF; rw [if_pos (by omega)]
    have h2 : (scope != 2) = true := by simp; omega
    have h3 : (scope != 3) = true := by simp; omega
    clear hs
    go_enter Tryz.func20, Tryz.ntmps20
    go_wp2_with (go_at_call 45; refine (sfault_c _ _ _).mono ?_; rintro e w' ⟨rfl, rfl⟩)
    go_ret2
    rw [hC.out]
    exact ⟨_, _, rfl, below_al (below_box _ _) _, rfl, _, by simp, rfl, heap_at (by simp)⟩
end Go.Proofs.YtldnkeackphilaaGreatDoor
namespace Go.Proofs.YtldnkeackphilaaGreatDoor

theorem typesGo_inr (ps : List Part) (sc : List Int) : ∀ (l : List Part) (i : Nat) (ts0 ts : List (Int × Int)), typesGo ps sc l i ts0 = .inr ts → ts0.length = i →
    ts.length = i + l.length ∧ (∀ j, j < i → ts[j]? = ts0[j]?) ∧ ∀ (j : Nat) p, l[j]? = some p → ∃ t, ts[i + j]? = some t ∧ typeF ps sc (ts.take (i + j)) ((i + j : Nat) : Int) p = .inr t
  | [], i, ts0, ts, h, hl => by
    simp only [typesGo, Sum.inr.injEq] at h
    subst h
    exact ⟨by simp [hl], fun j _ => rfl, fun j p hj => by simp at hj⟩
  | p :: r, i, ts0, ts, h, hl => by
    rw [typesGo] at h
    split at h
    · cases h
    · next t ht =>
      obtain ⟨h1, h2, h3⟩ := typesGo_inr ps sc r (i + 1) (ts0 ++ [t]) ts h (by simp [hl])
      have hk : ∀ j, j < i → ts[j]? = ts0[j]? := fun j hj => by rw [h2 j (by omega), List.getElem?_append_left (by omega)]
      refine ⟨by simp [h1]; omega, hk, fun j q hq => ?_⟩
      match j with
      | 0 =>
        cases hq
        refine ⟨t, ?_, ?_⟩
        · rw [Nat.add_zero, h2 i (by omega), List.getElem?_append_right (by omega), hl]; simp
        · have : ts.take (i + 0) = ts0 := by
            refine List.ext_getElem? fun j => ?_
            by_cases hj : j < i
            · rw [Nat.add_zero, List.getElem?_take_of_lt hj, hk j hj]
            · rw [List.getElem?_take_eq_none (by omega), List.getElem?_eq_none (by omega)]
          rw [this]
          exact ht
      | j + 1 =>
        have := h3 j q (by simpa using hq)
        rwa [show i + 1 + j = i + (j + 1) from by omega] at this
structure Typed (ps : List Part) (scope : Int) (ts : List (Int × Int)) : Prop where
  sc : scope = 2 ∨ scope = 3
  valid : validF ps = none
  len : ts.length = ps.length
  each : ∀ (j : Nat) p, ps[j]? = some p → ∃ t, ts[j]? = some t ∧ typeF ps (scopesF ps scope) (ts.take j) j p = .inr t
  last : sortAt ts (ps.length - 1 : Nat) = 1
theorem typed_of {ps : List Part} {scope : Int} {ts : List (Int × Int)} (h : checkF ps scope = .inr ts) : Typed ps scope ts := by
  unfold checkF at h
  split at h
  · cases h
  · next hs =>
    split at h
    · cases h
    · next hv =>
      split at h
      · cases h
      · next ts' ht =>
        split at h
        · cases h
        · next hl =>
          cases h
          obtain ⟨h1, -, h3⟩ := typesGo_inr ps _ ps 0 [] ts ht rfl
          refine ⟨by omega, hv, by simpa using h1, fun j p hj => ?_, by simpa using hl⟩
          have := h3 j p hj
          rwa [Nat.zero_add] at this
theorem sortAt_take (ts : List (Int × Int)) {n : Nat} {k : Int} (h0 : 0 ≤ k) (h : k < n) : sortAt (ts.take n) k = sortAt ts k := by
  simp only [sortAt, List.getElem?_take_of_lt (show k.toNat < n by omega)]
theorem shape_of_valid {ps : List Part} (h : validF ps = none) : shapeF ps = none := by
  unfold validF at h
  split at h
  · cases h
  · assumption
theorem kind_of_sort {ps : List Part} {sc : List Int} {ts : List (Int × Int)} {i : Int} {p : Part} {t : Int × Int} (h : typeF ps sc ts i p = .inr t) (hk : 1 ≤ p.kind ∧ p.kind ≤ 20) :
    (t.1 = 2 ∨ t.1 = 3 → sideK p.kind) ∧ (t.1 = 4 ∨ t.1 = 5 ∨ t.1 = 6 → p.kind = 13 ∨ p.kind = 16 ∨ p.kind = 17) := by
  have orE : ∀ {f : Option (Int × Int)} {u : Int × Int}, orElse f u = .inr t → t = u := fun {f u} h => by
    unfold orElse at h
    split at h
    · cases h
    · cases h; rfl
  unfold typeF at h
  unfold sideK
  split at h
  · cases h; simp
  split at h
  · rw [orE h]; simp
  split at h
  · rw [orE h]; simp
  split at h
  · rw [orE h]; simp
  split at h
  · next h20 => rw [orE h]; simp [h20]
  split at h
  · next h11 => cases h; simp [h11]
  split at h
  · next h12 => cases h; simp [h12]
  split at h
  · next h13 =>
    unfold setF at h
    split at h
    · cases h; simp [h13]
    · split at h
      · cases h
      · split at h <;> cases h <;> simp [h13]
  split at h
  · next h19 =>
    split at h
    · cases h
    · cases h; simp [h19]
  · unfold speaksF at h
    repeat' split at h
    all_goals first
      | (cases h; done)
      | (injection h with h; subst h; simp_all; done)
      | (injection h with h; subst h; simp_all; omega)
def szF (ps : List Part) : Nat → Int → Nat
  | 0, _ => 0
  | f + 1, k => 1 + ((partAt ps k).kids.map (szF ps f)).sum
theorem szF_fuel (ps : List Part) (hk : ∀ (i : Nat) p, ps[i]? = some p → ∀ k ∈ p.kids, 0 ≤ k ∧ k < i) : ∀ (n f g : Nat) (i : Nat), i < n → i < f → i < g → i < ps.length → szF ps f i = szF ps g i
  | 0, _, _, _, h, _, _, _ => by omega
  | n + 1, f + 1, g + 1, i, _, hf, hg, hl => by
    rw [szF, szF]
    have hp : ps[i]? = some ps[i] := List.getElem?_eq_getElem hl
    rw [partAt_nat hp]
    congr 2
    refine List.map_congr_left fun k hkm => ?_
    have := hk i _ hp k hkm
    obtain ⟨j, rfl⟩ : ∃ j : Nat, k = j := ⟨k.toNat, by omega⟩
    exact szF_fuel ps hk n f g j (by omega) (by omega) (by omega) (by omega)
theorem shapeGo_sz (ps : List Part) (M : Nat) (hM : ps.length ≤ M) (hk : ∀ (i : Nat) p, ps[i]? = some p → ∀ k ∈ p.kids, 0 ≤ k ∧ k < i) : ∀ (l : List Part) (i : Nat) (free f : List Int), ps.drop i = l → i ≤ ps.length → shapeGo ps l i free = .inr f → (free.map (szF ps (M + 1))).sum = i → free.length ≤ i →
    (f.map (szF ps (M + 1))).sum = ps.length ∧ ∀ (j : Nat) p, l[j]? = some p → p.kids.length ≤ i + j
  | [], i, free, f, hd, hi, h, hs, hfl => by
    simp only [shapeGo, Sum.inr.injEq] at h
    subst h
    have : ps.length ≤ i := by simpa [List.drop_eq_nil_iff] using hd
    exact ⟨by rw [hs]; omega, fun j p hj => by simp at hj⟩
  | p :: r, i, free, f, hd, hi, h, hs, hfl => by
    have hp : ps[i]? = some p := by
      have := congrArg (fun l : List Part => l[0]?) hd
      simpa using this
    have hil : i < ps.length := (List.getElem?_eq_some_iff.1 hp).1
    have hd' : ps.drop (i + 1) = r := by
      have := congrArg List.tail hd
      simpa using this
    rw [shapeGo] at h
    split at h
    · next hok =>
      simp only [partOk, Bool.and_eq_true, decide_eq_true_eq] at hok
      obtain ⟨⟨⟨h1, h2⟩, h3⟩, h4⟩ := hok
      have key : szF ps (M + 1) i = 1 + (p.kids.map (szF ps (M + 1))).sum := by
        rw [szF, partAt_nat hp]
        congr 2
        refine List.map_congr_left fun k hkm => ?_
        have := hk i _ hp k hkm
        obtain ⟨j, rfl⟩ : ∃ j : Nat, k = j := ⟨k.toNat, by omega⟩
        exact szF_fuel ps hk M M (M + 1) j (by omega) (by omega) (by omega) (by omega)
      have hsum : (free.map (szF ps (M + 1))).sum = ((free.take (free.length - p.kids.length)).map (szF ps (M + 1))).sum + (p.kids.map (szF ps (M + 1))).sum := by
        conv => lhs; rw [← List.take_append_drop (free.length - p.kids.length) free]
        rw [List.map_append, List.sum_append, ← h3]
      have ih := shapeGo_sz ps M hM hk r (i + 1) _ f hd' (by omega) h (by
        rw [List.map_append, List.sum_append]
        simp only [List.map_cons, List.map_nil, List.sum_cons, List.sum_nil]
        rw [key]
        omega) (by simp; omega)
      refine ⟨ih.1, fun j q hq => ?_⟩
      match j with
      | 0 => cases hq; omega
      | j + 1 =>
        have := ih.2 j q (by simpa using hq)
        omega
    · cases h
theorem shapeGo_last (ps : List Part) : ∀ (l : List Part) (i : Nat) (free f : List Int), shapeGo ps l i free = .inr f → l ≠ [] → f.getLast? = some ((i + l.length - 1 : Nat) : Int)
  | [], _, _, _, _, h => absurd rfl h
  | p :: r, i, free, f, h, _ => by
    rw [shapeGo] at h
    split at h
    · cases r with
      | nil =>
        simp only [shapeGo, Sum.inr.injEq] at h
        subst h
        simp
      | cons q r =>
        have := shapeGo_last ps (q :: r) (i + 1) _ f h (by simp)
        rw [this]
        simp only [List.length_cons]
        congr 2
        omega
    · cases h
theorem valid_sz {ps : List Part} (h : validF ps = none) (M : Nat) (hM : ps.length ≤ M) : szF ps (M + 1) ((ps.length - 1 : Nat) : Int) = ps.length ∧ ∀ (i : Nat) p, ps[i]? = some p → p.kids.length ≤ 1000 := by
  have hs := shape_of_valid h
  have hw := wf_of_shape hs
  have hk := hw.kids
  unfold shapeF at hs
  split at hs
  · cases hs
  next h0 =>
  split at hs
  · cases hs
  split at hs
  · cases hs
  next f hf =>
  split at hs
  case isFalse => cases hs
  next hl =>
  simp only [Bool.and_eq_true, decide_eq_true_eq] at hl
  obtain ⟨h1, h2⟩ := shapeGo_sz ps M hM hk ps 0 [] f rfl (by omega) hf rfl (by simp)
  have h3 := shapeGo_last ps ps 0 [] f hf (fun e => h0 (by rw [e]; rfl))
  refine ⟨?_, fun i p hp => ?_⟩
  · obtain ⟨x, rfl⟩ := List.length_eq_one_iff.1 hl.2
    simp only [List.getLast?_singleton, Option.some.injEq, Nat.zero_add] at h3
    rw [← h3]
    simpa using h1
  · have := h2 i p hp
    have := (List.getElem?_eq_some_iff.1 hp).1
    have := hw.le
    omega
theorem sides6 {num f g : Int} {mv : Bool} {i a b : Int} (h : sidesG 6 num f g mv i a b = none) : (f = 2 ∨ f = 3) ∧ g = f := by
  unfold sidesG at h
  by_cases h1 : f ≠ 2 ∧ f ≠ 3
  · simp [h1] at h
  · rw [if_neg h1] at h
    by_cases h2 : g = f
    · exact ⟨by omega, h2⟩
    · simp [h2] at h
theorem sides7 {num f g : Int} {mv : Bool} {i a b : Int} (h : sidesG 7 num f g mv i a b = none) : (f = 2 ∨ f = 3) ∧ (g = 4 ∨ g = 5 ∨ g = 6) := by
  unfold sidesG at h
  by_cases h1 : f ≠ 2 ∧ f ≠ 3
  · simp [h1] at h
  · rw [if_neg h1] at h
    by_cases h2 : g = 6 ∨ (g = 4 ∧ f = 2) ∨ (g = 5 ∧ f = 3)
    · exact ⟨by omega, by omega⟩
    · simp [h2] at h
theorem tt_of {ps : List Part} {scope : Int} {ts : List (Int × Int)} (h : checkF ps scope = .inr ts) : TT ps := by
  have ht := typed_of h
  have hw := wf_of_shape (shape_of_valid ht.valid)
  have kind : ∀ (k : Nat) p, ps[k]? = some p → 1 ≤ p.kind ∧ p.kind ≤ 20 := fun k p hp => by
    have := hw.fits k p hp
    simp only [partFitsF, Bool.and_eq_true, decide_eq_true_eq] at this
    omega
  have at_ : ∀ (i : Nat) p, ps[i]? = some p → ∀ k ∈ p.kids, ∃ (j : Nat) (q : Part) (t : Int × Int), k = j ∧ j < i ∧ ps[j]? = some q ∧ partAt ps k = q ∧ ts[j]? = some t ∧ sortAt (ts.take i) k = t.1 ∧ (t.1 = 2 ∨ t.1 = 3 → sideK q.kind) ∧ (t.1 = 4 ∨ t.1 = 5 ∨ t.1 = 6 → q.kind = 13 ∨ q.kind = 16 ∨ q.kind = 17) := fun i p hp k hk => by
    have h1 := hw.kids i p hp k hk
    have hil := (List.getElem?_eq_some_iff.1 hp).1
    obtain ⟨j, rfl⟩ : ∃ j : Nat, k = j := ⟨k.toNat, by omega⟩
    have hq : ps[j]? = some ps[j] := List.getElem?_eq_getElem (by omega)
    obtain ⟨t, h2, h3⟩ := ht.each j _ hq
    obtain ⟨h4, h5⟩ := kind_of_sort h3 (kind j _ hq)
    exact ⟨j, ps[j], t, rfl, by omega, hq, partAt_nat hq, h2, by rw [sortAt_take ts h1.1 h1.2, sortAt_nat h2], h4, h5⟩
  have two : ∀ (i : Nat) p, ps[i]? = some p → p.kind = 6 ∨ p.kind = 7 → ∃ a b, p.kids = [a, b] ∧ sidesF (ts.take i) i p = none := fun i p hp h => by
    obtain ⟨t, h2, h3⟩ := ht.each i p hp
    have hfit := hw.fits i p hp
    have hcnt : kidCountF p.kind p.kids.length = true := by simp only [partFitsF, Bool.and_eq_true, decide_eq_true_eq] at hfit; exact hfit.2
    have h1 : (p.kids.length : Int) = 2 := by rcases h with h | h <;> simpa [kidCountF, h] using hcnt
    have hne : ¬(p.kind = 1 ∨ p.kind = 2) ∧ ¬(p.kind = 3 ∨ p.kind = 4 ∨ p.kind = 5) := by omega
    rw [typeF, if_neg hne.1, if_neg hne.2, if_pos h] at h3
    replace h1 : p.kids.length = 2 := by omega
    match hl : p.kids, h1 with
    | [a, b], _ =>
      refine ⟨a, b, rfl, ?_⟩
      unfold orElse at h3
      split at h3
      · cases h3
      · assumption
  refine ⟨hw, (valid_sz ht.valid ps.length (Nat.le_refl _)).2, fun i p hp h6 => ?_, fun i p hp h7 => ?_⟩
  · obtain ⟨a, b, hab, hs⟩ := two i p hp (.inl h6)
    obtain ⟨ja, qa, ta, -, -, -, ha1, -, ha2, ha3, -⟩ := at_ i p hp a (by simp [hab])
    obtain ⟨jb, qb, tb, -, -, -, hb1, -, hb2, hb3, -⟩ := at_ i p hp b (by simp [hab])
    simp only [sidesF, hab, List.getD_cons_zero, List.getD_cons_succ, ha2, hb2] at hs
    simp only [hab, List.getD_cons_zero, List.getD_cons_succ, ha1, hb1]
    rw [h6] at hs
    obtain ⟨h1, h2⟩ := sides6 hs
    exact ⟨ha3 h1, hb3 (by omega)⟩
  · obtain ⟨a, b, hab, hs⟩ := two i p hp (.inr h7)
    obtain ⟨ja, qa, ta, -, -, -, ha1, -, ha2, ha3, -⟩ := at_ i p hp a (by simp [hab])
    obtain ⟨jb, qb, tb, -, -, -, hb1, -, hb2, -, hb3⟩ := at_ i p hp b (by simp [hab])
    simp only [sidesF, hab, List.getD_cons_zero, List.getD_cons_succ, ha2, hb2] at hs
    simp only [hab, List.getD_cons_zero, List.getD_cons_succ, ha1, hb1]
    rw [h7] at hs
    obtain ⟨h1, h2⟩ := sides7 hs
    exact ⟨ha3 h1, hb3 (by omega)⟩
end Go.Proofs.YtldnkeackphilaaGreatDoor
namespace Go.Proofs.YtldnkeackphilaaGreatDoor

mutual
def wtT : Tr → Nat
  | .mk _ _ lit kids sel => 1 + lit.texts.length + lit.nums.length + wtKs kids + (match sel with | none => 0 | some t => wtT t)
def wtKs : List Tr → Nat
  | [] => 0
  | t :: r => wtT t + wtKs r
end
def wtO : Option Tr → Nat
  | none => 0
  | some t => wtT t
theorem wtT_mk (k : Int) (neg : Bool) (l : LitD) (kids : List Tr) (sel : Option Tr) : wtT (.mk k neg l kids sel) = 1 + l.texts.length + l.nums.length + wtKs kids + wtO sel := by cases sel <;> simp only [wtT, wtO]
theorem wtKs_sum : ∀ l : List Tr, wtKs l = (l.map wtT).sum
  | [] => by simp [wtKs]
  | t :: r => by simp [wtKs, wtKs_sum r]
theorem wt_pos (t : Tr) : 1 ≤ wtT t := by obtain ⟨k, n, l, ks, s⟩ := t; rw [wtT_mk]; omega
mutual
theorem cnt_wt : ∀ t : Tr, cntT t ≤ wtT t
  | .mk _ _ lit kids none => by have := cntKs_wt kids; simp only [cntT, wtT]; omega
  | .mk _ _ lit kids (some t) => by have := cntKs_wt kids; have := cnt_wt t; simp only [cntT, wtT]; omega
theorem cntKs_wt : ∀ l : List Tr, cntKs l ≤ wtKs l
  | [] => by simp [cntKs, wtKs]
  | t :: r => by have := cnt_wt t; have := cntKs_wt r; simp only [cntKs, wtKs]; omega
end
theorem wt_leaf (k : Int) : wtT (.leaf k) = 1 := by simp [Tr.leaf, wtT_mk, LitD.zero, wtKs, wtO]
theorem wt_truth (b : Bool) (s : Int) : wtT (truthF b s) = 1 := by unfold truthF; split <;> exact wt_leaf _
theorem wt_lit (l : LitD) (s : Int) (sel : Option Tr) : wtT (.lit l s sel) = 1 + l.texts.length + l.nums.length + wtO sel := by simp [Tr.lit, wtT_mk, wtKs]
theorem sum_filter_le (f : Tr → Nat) (p : Tr → Bool) : ∀ l : List Tr, ((l.filter p).map f).sum ≤ (l.map f).sum
  | [] => by simp
  | t :: r => by
    have := sum_filter_le f p r
    rw [List.filter_cons]
    split
    · simp only [List.map_cons, List.sum_cons]; omega
    · simp only [List.map_cons, List.sum_cons]; omega
theorem wt_join (kind : Int) (kids : List Tr) : wtT (joinF kind kids) ≤ 1 + (kids.map wtT).sum := by
  unfold joinF
  dsimp only
  generalize (if kind = 4 then (1 : Int) else 2) = win
  generalize (if kind = 4 then (2 : Int) else 1) = drop
  split
  · rw [wt_leaf]; omega
  · have h := sum_filter_le wtT (fun t => decide (t.kind ≠ drop)) kids
    generalize (kids.filter fun t => decide (t.kind ≠ drop)) = l at h ⊢
    split
    · rw [wt_leaf]; omega
    · simp at h; omega
    · rw [wtT_mk, wtKs_sum]; simp [LitD.zero, wtO]; omega
theorem wt_against (t c : OpdD) (cmp s : Int) : wtT (againstF t c cmp s) ≤ 2 + wtO t.sel := by
  unfold againstF
  rw [wt_lit]
  have : (againstL t c cmp).texts.length + (againstL t c cmp).nums.length ≤ 1 := by
    unfold againstL
    repeat' split
    all_goals simp [LitD.zero]
  omega
theorem wt_compared (a b : OpdD) (n s : Int) : wtT (comparedX a b n s) ≤ 2 + wtO a.sel + wtO b.sel := by
  unfold comparedX
  dsimp only
  generalize (if n = 2 then 1 else n) = cmp
  generalize (if n = 2 then 1 - s else s) = s'
  split
  · rw [wt_truth]; omega
  split
  · rw [wt_truth]; omega
  split
  · have := wt_against b a (turnF cmp) s'; omega
  split
  · have := wt_against a b cmp s'; omega
  split
  · rw [wt_lit]; simp [LitD.zero]; omega
  · rw [wt_lit]; simp [LitD.zero]; omega
theorem sets_len (es : List OpdD) : (compactS (sortedS (textsOf es))).length + (Lib.compact (sortedI (numsOf es))).length ≤ es.length := by
  have h1 : (compactS (sortedS (textsOf es))).length ≤ (textsOf es).length := by
    have := compact_le (bytesL (sortedS (textsOf es)))
    simp only [compactS, textsL, List.length_map]
    refine Nat.le_trans this ?_
    simp [bytesL, sortedS, textsL]
  have h2 : (Lib.compact (sortedI (numsOf es))).length ≤ (numsOf es).length := by
    have := compact_le (sortedI (numsOf es))
    simpa [sortedI] using this
  have h3 : ∀ es : List OpdD, (textsOf es).length + (numsOf es).length = es.length := by
    intro es
    induction es with
    | nil => rfl
    | cons e r ih =>
      simp only [textsOf, numsOf, List.filter_cons, List.length_map] at ih ⊢
      cases e.num <;> simp <;> omega
  have := h3 es
  omega
theorem wt_member (x : OpdD) (es : List OpdD) (s : Int) : wtT (memberX x es s) ≤ 1 + es.length + wtO x.sel := by
  unfold memberX
  split
  · rw [wt_truth]; omega
  split
  · rw [wt_truth]; omega
  · rw [wt_lit]
    have := sets_len es
    dsimp only
    omega
set_option linter.unusedSectionVars false
section
variable (ps : List Part) (S : Int → Nat) (hS : ∀ (i : Nat) p, ps[i]? = some p → S i = 1 + (p.kids.map S).sum) (hw : WF ps) (c : Int → Int → Tr) (hc : ∀ (j : Nat) p s, ps[j]? = some p → 1 ≤ p.kind ∧ p.kind ≤ 10 → wtT (c j s) ≤ S j)
include hS hw hc
theorem S_kid {i : Nat} {p : Part} (hp : ps[i]? = some p) {k : Int} (hk : k ∈ p.kids) : ∃ j : Nat, k = j ∧ j < i ∧ j < ps.length := by
  have h1 := hw.kids i p hp k hk
  have h2 := (List.getElem?_eq_some_iff.1 hp).1
  exact ⟨k.toNat, by omega, by omega, by omega⟩
theorem kid_cond {i : Nat} {p : Part} (hp : ps[i]? = some p) (h : p.kind = 3 ∨ p.kind = 4 ∨ p.kind = 5 ∨ p.kind = 8 ∨ p.kind = 9 ∨ p.kind = 20) {k : Int} (hk : k ∈ p.kids) (s : Int) : ∃ j : Nat, k = j ∧ j < i ∧ j < ps.length ∧ wtT (c j s) ≤ S j := by
  obtain ⟨j, rfl, h1, h2⟩ := S_kid ps S hS hw c hc hp hk
  have hq : ps[j]? = some ps[j] := List.getElem?_eq_getElem h2
  have h3 := hw.kinds i p hp j hk
  rw [kindAt_nat ps j _ hq] at h3
  refine ⟨j, rfl, h1, h2, hc j _ s hq ?_⟩
  have h4 : isCondF ps[j].kind = true := by
    unfold kidFitsF at h3
    rwa [if_pos h] at h3
  simpa [isCondF] using h4
theorem cnt_of {i : Nat} {p : Part} (hp : ps[i]? = some p) : kidCountF p.kind p.kids.length = true := by
  have hfit := hw.fits i p hp
  simp only [partFitsF, Bool.and_eq_true, decide_eq_true_eq] at hfit
  exact hfit.2
theorem one_kid {i : Nat} {p : Part} (hp : ps[i]? = some p) (h : p.kind = 3 ∨ p.kind = 8 ∨ p.kind = 9 ∨ p.kind = 19 ∨ p.kind = 20) : ∃ j : Nat, p.kids = [(j : Int)] ∧ j < i ∧ j < ps.length := by
  have hcnt := cnt_of ps S hS hw c hc hp
  have h1 : (p.kids.length : Int) = 1 := by rcases h with h | h | h | h | h <;> simpa [kidCountF, h] using hcnt
  replace h1 : p.kids.length = 1 := by omega
  match hl : p.kids, h1 with
  | [a], _ =>
    obtain ⟨j, rfl, h2, h3⟩ := S_kid ps S hS hw c hc hp (k := a) (by simp [hl])
    exact ⟨j, rfl, h2, h3⟩
theorem wt_opd (k : Nat) (hk : k < ps.length) : wtO (opdF c ps k).sel + 1 ≤ S k := by
  have hp : ps[k]? = some ps[k] := List.getElem?_eq_getElem hk
  have h0 : 1 ≤ S k := by rw [hS k _ hp]; omega
  rw [opdF, partAt_nat hp]
  unfold opdOf
  dsimp only
  split
  · simpa [wtO] using h0
  split
  · simpa [wtO] using h0
  split
  · simpa [wtO] using h0
  split
  · simpa [wtO] using h0
  split
  · simpa [wtO] using h0
  split
  · next h20 =>
    obtain ⟨j, hj, h1, h2⟩ := one_kid ps S hS hw c hc hp (by omega)
    obtain ⟨j', e, -, -, this⟩ := kid_cond ps S hS hw c hc hp (by omega) (k := j) (by simp [hj]) 0
    obtain rfl : j = j' := by omega
    rw [hS k _ hp, hj]
    simp [wtO]
    omega
  · split
    · simpa [wtO] using h0
    · split
      · simpa [wtO] using h0
      · simpa [wtO] using h0
theorem wt_step (i : Nat) (p : Part) (hp : ps[i]? = some p) (h20 : 1 ≤ p.kind ∧ p.kind ≤ 10) (s : Int) : wtT (condStep c ps i s) ≤ S i := by
  have hS' := hS i p hp
  unfold condStep
  rw [partAt_nat hp]
  dsimp only
  split
  · rw [wt_truth]; omega
  split
  · next h =>
    obtain ⟨j, hj, h1, h2⟩ := one_kid ps S hS hw c hc hp (by omega)
    obtain ⟨j', e, -, -, this⟩ := kid_cond ps S hS hw c hc hp (by omega) (k := j) (by simp [hj]) (1 - s)
    obtain rfl : j = j' := by omega
    rw [hj] at hS' ⊢
    simp at hS' ⊢
    omega
  split
  · rw [hS']
    refine Nat.le_trans (wt_join _ _) (Nat.add_le_add_left ?_ 1)
    have : ∀ l : List Int, (∀ k ∈ l, k ∈ p.kids) → ((l.map fun k => c k s).map wtT).sum ≤ (l.map S).sum := by
      intro l
      induction l with
      | nil => intro _; simp
      | cons k r ih =>
        intro h
        obtain ⟨j, rfl, -, -, h3⟩ := kid_cond ps S hS hw c hc hp (by omega) (h k (by simp)) s
        have h4 := ih fun k hk => h k (by simp [hk])
        simp only [List.map_cons, List.sum_cons]
        omega
    exact this p.kids fun _ h => h
  split
  · obtain ⟨j, hj, h1, h2⟩ := one_kid ps S hS hw c hc hp (by omega)
    obtain ⟨j', e, -, -, this⟩ := kid_cond ps S hS hw c hc hp (by omega) (k := j) (by simp [hj]) 0
    obtain rfl : j = j' := by omega
    rw [hj] at hS'
    unfold nearF
    rw [hj]
    simp at hS' ⊢
    split
    · rw [wt_truth]; omega
    · rw [wt_lit]; simp [LitD.zero, wtO]; omega
  split
  · obtain ⟨j, hj, h1, h2⟩ := one_kid ps S hS hw c hc hp (by omega)
    obtain ⟨j', e, -, -, this⟩ := kid_cond ps S hS hw c hc hp (by omega) (k := j) (by simp [hj]) 0
    obtain rfl : j = j' := by omega
    rw [hj] at hS'
    unfold nearF
    rw [hj]
    simp at hS' ⊢
    split
    · rw [wt_truth]; omega
    · rw [wt_lit]; simp [LitD.zero, wtO]; omega
  split
  · rw [wt_lit]; simp [LitD.zero, wtO]; omega
  have two : ∃ a b : Nat, p.kids = [(a : Int), (b : Int)] ∧ a < ps.length ∧ b < ps.length := by
    have hcnt := cnt_of ps S hS hw c hc hp
    have h67 : p.kind = 6 ∨ p.kind = 7 := by omega
    have h1 : (p.kids.length : Int) = 2 := by rcases h67 with h | h <;> simpa [kidCountF, h] using hcnt
    replace h1 : p.kids.length = 2 := by omega
    match hl : p.kids, h1 with
    | [a, b], _ =>
      obtain ⟨j, rfl, h2, h3⟩ := S_kid ps S hS hw c hc hp (k := a) (by simp [hl])
      obtain ⟨k, rfl, h4, h5⟩ := S_kid ps S hS hw c hc hp (k := b) (by simp [hl])
      exact ⟨j, k, rfl, h3, h5⟩
  obtain ⟨a, b, hab, ha, hb⟩ := two
  rw [hab] at hS'
  have h1 := wt_opd ps S hS hw c hc a ha
  have h2 := wt_opd ps S hS hw c hc b hb
  simp only [List.map_cons, List.map_nil, List.sum_cons, List.sum_nil] at hS'
  split
  · unfold comparedF
    rw [hab]
    have := wt_compared (opdF c ps a) (opdF c ps b) p.num s
    simp only [List.getD_cons_zero, List.getD_cons_succ]
    omega
  · rw [hab]
    simp only [List.getD_cons_zero, List.getD_cons_succ]
    unfold memberF
    have hq : ps[b]? = some ps[b] := List.getElem?_eq_getElem hb
    rw [partAt_nat hq]
    dsimp only
    split
    · rw [wt_lit]; simp [LitD.zero, wtO]; omega
    split
    · rw [wt_lit]; simp [LitD.zero, wtO]; omega
    · have h3 := wt_member (opdF c ps a) ((ps[b]).kids.map (opdF c ps)) (if p.num = 1 then 1 - s else s)
      have h4 : (ps[b]).kids.length ≤ ((ps[b]).kids.map S).sum := by
        have : ∀ l : List Int, (∀ k ∈ l, k ∈ (ps[b]).kids) → l.length ≤ (l.map S).sum := by
          intro l
          induction l with
          | nil => intro _; simp
          | cons k r ih =>
            intro h
            obtain ⟨j, rfl, -, h2⟩ := S_kid ps S hS hw c hc hq (h k (by simp))
            have h3 := hS j _ (List.getElem?_eq_getElem h2)
            have h4 := ih fun k hk => h k (by simp [hk])
            simp only [List.map_cons, List.sum_cons, List.length_cons]
            omega
        exact this _ fun _ h => h
      have h5 := hS b _ hq
      simp only [List.length_map] at h3
      omega
end
theorem S_eq {ps : List Part} (hw : WF ps) (M : Nat) (hM : ps.length ≤ M) (i : Nat) (p : Part) (hp : ps[i]? = some p) : szF ps (M + 1) i = 1 + (p.kids.map (szF ps (M + 1))).sum := by
  rw [szF, partAt_nat hp]
  congr 2
  refine List.map_congr_left fun k hkm => ?_
  have := hw.kids i p hp k hkm
  have hil := (List.getElem?_eq_some_iff.1 hp).1
  obtain ⟨j, rfl⟩ : ∃ j : Nat, k = j := ⟨k.toNat, by omega⟩
  exact szF_fuel ps hw.kids M M (M + 1) j (by omega) (by omega) (by omega) (by omega)
theorem wt_cond {ps : List Part} (hw : WF ps) (M : Nat) (hM : ps.length ≤ M) : ∀ (f : Nat) (i : Nat) (p : Part) (s : Int), ps[i]? = some p → 1 ≤ p.kind ∧ p.kind ≤ 10 → wtT (condF ps f i s) ≤ szF ps (M + 1) i
  | 0, i, p, s, hp, _ => by
    rw [condF, wt_leaf, S_eq hw M hM i _ hp]
    omega
  | f + 1, i, p, s, hp, h => by
    rw [condF]
    exact wt_step ps (szF ps (M + 1)) (S_eq hw M hM) hw (condF ps f) (fun j q s hq hj => wt_cond hw M hM f j q s hq hj) i p hp h s
theorem wt_whole {ps : List Part} (hv : validF ps = none) (s : Int) : wtT (condF ps ps.length ((ps.length - 1 : Nat) : Int) s) ≤ ps.length := by
  have hw := wf_of_shape (shape_of_valid hv)
  have hpos := hw.pos
  have hp : ps[ps.length - 1]? = some ps[ps.length - 1] := List.getElem?_eq_getElem (by omega)
  have hl := hw.last
  rw [kindAt_nat ps _ _ hp] at hl
  have h1 := wt_cond hw ps.length (Nat.le_refl _) ps.length (ps.length - 1) _ s hp (by simpa [isCondF] using hl)
  have h2 := (valid_sz hv ps.length (Nat.le_refl _)).1
  omega
end Go.Proofs.YtldnkeackphilaaGreatDoor
