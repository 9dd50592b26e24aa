/- norm.Plan of the fixed tree. -/
import Derived.Test.YtldnkeackphilaaGreatDoorNd19
import Derived.Test.YtldnkeackphilaaGreatDoorNd20
import Derived.Test.YtldnkeackphilaaGreatDoorNd21
import Derived.Test.YtldnkeackphilaaGreatDoorNd14
import Derived.Test.YtldnkeackphilaaGreatDoorNd18
set_option linter.unusedSimpArgs false
set_option linter.unusedVariables false
set_option linter.unusedSectionVars false
namespace Go.Proofs.YtldnkeackphilaaGreatDoor.X
open Go.RowKit

def zoneT : ByteArray := ⟨#[122, 111, 110, 101]⟩
def aT : ByteArray := ⟨#[97]⟩
def ps0 : List Part := [⟨14, zoneT, 2, []⟩, ⟨11, aT, 0, []⟩, ⟨6, noText, 1, [0, 1]⟩, ⟨3, noText, 0, [2]⟩]
theorem ps0_valid : validF ps0 = none := by decide +kernel
theorem ps0_check : checkF ps0 2 = .inr [(2, 2), (2, 0), (1, 2), (1, 2)] := by
  have h : (checkF ps0 2).getRight? = some [(2, 2), (2, 0), (1, 2), (1, 2)] := by decide +kernel
  revert h
  generalize checkF ps0 2 = c
  cases c <;> simp
theorem ps0_wf : WF ps0 := wf_of_shape (by decide +kernel)
theorem ps0_mem {P : Part → Prop} (h : ∀ p ∈ ps0, P p) {i : Nat} {p : Part} (hp : ps0[i]? = some p) : P p := h p (List.mem_of_getElem? hp)
theorem ps0_tt : TT ps0 where
  wf := ps0_wf
  cnt := fun i p hp => ps0_mem (P := fun p => p.kids.length ≤ 1000) (by simp [ps0]) hp
  cmp := fun i p hp => ps0_mem (P := fun p => p.kind = 6 → sideK (partAt ps0 (p.kids.getD 0 0)).kind ∧ sideK (partAt ps0 (p.kids.getD 1 0)).kind) (by simp [ps0, partAt, sideK]) hp
  mem := fun i p hp => ps0_mem (P := fun p => p.kind = 7 → sideK (partAt ps0 (p.kids.getD 0 0)).kind ∧ ((partAt ps0 (p.kids.getD 1 0)).kind = 13 ∨ (partAt ps0 (p.kids.getD 1 0)).kind = 16 ∨ (partAt ps0 (p.kids.getD 1 0)).kind = 17)) (by simp [ps0]) hp
theorem ps0_pb : PB ps0 where
  len := by simp [ps0]
  part := by
    have h : ∀ p ∈ ps0, (decide (-9223372036854775808 ≤ p.kind) && decide (p.kind ≤ 9223372036854775807) && decide (-9223372036854775808 ≤ p.num) && decide (p.num ≤ 9223372036854775807) && decide (p.text.size ≤ 140737488351232) && decide (p.kids.length ≤ 35184372088064) && p.kids.all fun k => decide (-9223372036854775808 ≤ k) && decide (k ≤ 9223372036854775807)) = true := by decide +kernel
    intro p hp
    have := h p hp
    simp only [Bool.and_eq_true, decide_eq_true_eq, List.all_eq_true] at this
    obtain ⟨⟨⟨⟨⟨⟨h1, h2⟩, h3⟩, h4⟩, h5⟩, h6⟩, h7⟩ := this
    exact ⟨⟨h1, h2⟩, ⟨h3, h4⟩, h5, h6, fun k hk => ⟨(h7 k hk).1, (h7 k hk).2⟩⟩
theorem ps0_memC (n f : Nat) : MemC ps0 n f := fun i p a b s hp h7 => absurd h7 (ps0_mem (P := fun p => ¬ p.kind = 7) (by simp [ps0]) hp)
theorem ps0_cond : CondC ps0 4 := cond_all ps0 ps0_tt (fun n f _ _ => ps0_memC n f) 4
def main0 : List PartD := [⟨5, true, { LitD.zero with kind := 1, term := ⟨2, 2, zoneT, 0⟩, texts := [aT] }, []⟩]
theorem ps0_tree : condF ps0 4 3 0 = .lit { LitD.zero with kind := 1, term := ⟨2, 2, zoneT, 0⟩, texts := [aT] } 1 none := by
  simp [condF, condStep, ps0, partAt, comparedF, comparedX, opdF, opdOf, againstF, againstL]
theorem plan0 : Has Tryz.prog 13 [.agg [psA ps0], iA 2] (.tup [.agg [partsA main0, selsA []], iA 0]) noTok := by
  refine plan_ok ps0 2 ⟨by decide, by decide⟩ ps0_pb ps0_valid _ ps0_check (condF ps0 4 3 0) ?_ ?_ (main0, []) ?_
  · exact ps0_cond 3 4 0 ⟨3, noText, 0, [2]⟩ rfl (by simp [isCondF]) (by omega) (by omega) (by omega)
  · rw [ps0_tree]; simp [Tr.lit, cntT, cntKs]
  · rw [ps0_tree]; simp [Tr.lit, writeT, writeKs, main0]
end Go.Proofs.YtldnkeackphilaaGreatDoor.X
namespace Go.Proofs.YtldnkeackphilaaGreatDoor
open Go.RowKit

set_option maxRecDepth 8000

namespace X
theorem num_h (n : Int) : Has Tryz.prog 16 [iA n] (iA n) noTok := by
  refine fnX mixed ⟨[0, 2], [], [], [], []⟩ Tryz.func16 rfl rfl rfl (by kernel_rfl) rfl ?_
  simp
theorem label_h (key : ByteArray) : Has Tryz.prog 34 [sA key] (.agg [iA 14, sA key, iA 2, .sl []]) noTok := by
  refine fnX mixed ⟨[0, 2], [2], [], [], []⟩ Tryz.func34 rfl rfl rfl (by kernel_rfl) rfl ?_
  simp
end X
end Go.Proofs.YtldnkeackphilaaGreatDoor
namespace Go.Proofs.YtldnkeackphilaaGreatDoor.X
open Go.RowKit

def plan0D : PlanD := ⟨main0, []⟩
theorem fits0 : FitsP plan0D := by
  refine ⟨⟨by decide, fun p hp => ?_⟩, by decide, fun l hl => by cases hl⟩
  simp [plan0D, main0] at hp
  subst hp
  exact ⟨⟨by decide, by decide⟩, by decide⟩
set_option maxRecDepth 8000
theorem awake_h : Has Tryz.prog 10 [] (bA true) noTok := by
  refine fnX mixed ⟨[0, 1, 2, 3, 4, 48], [7, 9, 11, 1, 2, 4], [], [], []⟩ Tryz.func10 rfl rfl rfl (by kernel_rfl) rfl ?_
  have h1 := label_h zoneT
  have h2 := plan0
  have h3 := nValid_h plan0D fits0
  have e1 : (zoneT.toList == [122, 111, 110, 101]) = true := by decide +kernel
  have e2 : (aT.toList == [97]) = true := by decide +kernel
  have e3 : planOkF plan0D = true := by decide +kernel
  rw [e3] at h3
  simp only [psA, ps0, List.map_cons, List.map_nil, pCs, intsA, strsA, LitD.zero, TermD.zero, partsA, selsA, main0, partCs, planCs, plan0D] at h1 h2 h3
  simp
  refine callP_of h1 (by simp) (by simp) ?_
  simp
  refine ⟨rfl, rfl, callP_of h2 (by simp) (by simp) ?_⟩
  simp
  refine callP_of (num_h 0) (by simp) (by simp) ?_
  simp [e1, e2]
  refine .inr ?_
  refine callP_of h3 (by simp) (by simp) ?_
  simp
  exact ⟨eq_of_beq e1, eq_of_beq e2⟩
end Go.Proofs.YtldnkeackphilaaGreatDoor.X
namespace Go.Proofs.YtldnkeackphilaaGreatDoor.X
open Go.RowKit

def faultA (c pl : Int) : AV := .ifc 114 (.ptr [iA c, iA pl, sA noText, .imm .nilIface])
theorem as_h (c pl : Int) (a0 : AV) : Hs Tryz.prog 43 [faultA c pl, .ifc 116 (.ref 1000 0)] [(1000, .box 114 [a0])] (bA true) [1000] [(1000, .box 114 [.ptr [iA c, iA pl, sA noText, .imm .nilIface]])] := by
  refine ⟨fun vals w => enters_of Tryz.func43 rfl rfl vals w, fun G ν w vals hc hB hinj hno hl hv => ?_⟩
  obtain ⟨l⟩ := vals
  match l, hl with
  | [v0, v1], _ =>
    obtain ⟨u0, rfl, hu0⟩ := (hv 0 v0 _ rfl rfl).ifcI
    obtain ⟨u1, rfl, hu1⟩ := (hv 1 v1 _ rfl rfl).ifcI
    obtain ⟨g, o, rfl, hcell⟩ := hu0.ptrI
    obtain ⟨g1, cap, sz, hn, rfl⟩ := hu1.refI
    obtain ⟨g2, cap2, sz2, hn2, hG, vs, hh, hsz, hvs⟩ := hB _ (List.mem_singleton.2 rfl)
    rw [hn] at hn2
    cases hn2
    have hlt : g1 < w.heap.size := (Array.getElem?_eq_some_iff.1 hh).1
    obtain ⟨l⟩ := vs
    match l, hsz with
    | [old], _ =>
      refine (as_hit ⟨g, o, none⟩ ⟨g1, 0, none⟩ old w (glob_of hc).et (cell_of_row _ _ 0 _ _ _ hh) (by unfold World.frozen?; rw [hh]; simp)).mono ?_
      rintro e w' ⟨rfl, rfl⟩
      have hblk : ∀ k, k < w.heap.size → k ≠ g1 → (((((w.alloc (.cells #[.pointer (some ⟨g1, 0, none⟩)] 116)).alloc (.cells #[.pointer (some ⟨4, 116, none⟩), .pointer (some ⟨w.heap.size, 0, none⟩), .int .u64 150] 183)).alloc (.cells #[.pointer (some ⟨4, 116, none⟩), .pointer (some ⟨w.heap.size, 0, none⟩), .int .u64 150] 183)).alloc (.cells #[.pointer (some ⟨g, o, none⟩)] 114)).setCell ⟨g1, 0, none⟩ (.pointer (some ⟨g, o, none⟩))).heap[k]? = w.heap[k]? := fun k hk hne => by
        rw [Below.heap_setCell _ _ _ _ (by exact fun e => hne e)]
        rw [Below.heap_alloc _ _ _ (by simp; omega), Below.heap_alloc _ _ _ (by simp; omega), Below.heap_alloc _ _ _ (by simp; omega), Below.heap_alloc _ _ _ hk]
      have hcells : CellsR G _ := cells_old hc fun k ⟨i, a, hg⟩ => hblk k (ghost_lt hc hg) fun e => hG i a (e ▸ hg)
      refine ⟨_, G, ν, rfl, hcells, .sh (.imm _ rfl), fun p hp => (List.mem_singleton.1 hp) ▸ ⟨g1, cap, sz, hn, hG, #[.pointer (some ⟨g, o, none⟩)], ?_, rfl, fun j v a h1 h2 => ?_⟩, fun p hp q hq _ _ _ => by rw [List.mem_singleton.1 hp, List.mem_singleton.1 hq], fun n _ => rfl, fun p hp k hk => .inr ⟨_, List.mem_singleton.2 rfl, by rw [List.mem_singleton.1 hp] at hk; exact hk⟩, ⟨rfl, rfl, rfl, by simp [World.setCell]; omega, .refl _, fun k hk hF => ⟨hblk k hk fun e => hF ⟨_, List.mem_singleton.2 rfl, by simp [blkOf, hn, e]⟩, rfl⟩⟩⟩
      · exact blk_set (heap_al (heap_al (heap_al (heap_al hh)))) 0 _
      · match j with
        | 0 => cases h1; cases h2; exact ⟨rfl, .sh (.ptr g o _ hcell)⟩
        | j + 1 => simp at h1
set_option maxRecDepth 8000
theorem code_h (c pl : Int) : Has Tryz.prog 37 [faultA c pl] (iA c) noTok := by
  refine fnX mixed ⟨[0, 2, 3, 4, 5, 9, 18], [3], [], [], []⟩ Tryz.func37 rfl rfl rfl (by kernel_rfl) rfl ?_
  have h := as_h c pl (.imm (.pointer none))
  simp only [faultA] at h
  simp [faultA]
  refine callH_of [(1000, 3)] [] h (by simp) (by simp) (by simp) ?_
  simp

theorem fault_ghost {G : Gh} {w w' : World} (hc : CellsR G w) (hB : Below w.heap.size w w') {b : Nat} (hb : w.heap.size ≤ b) {c pl : Int} (hh : w'.heap[b]? = some (.cells #[.int .i64 c, .int .i64 pl, .string ⟨#[]⟩, .nilIface] 118)) :
    ∃ G', CellsR G' w' ∧ Gle G G' ∧ (∀ g, g < w.heap.size → G' g = G g) ∧ RS G' (.iface 114 (.pointer (some ⟨b, 0, none⟩))) (faultA c pl) := by
  have hle := gset_le G b fun j => ([iA c, iA pl, sA noText, .imm .nilIface] : List AV)[j]?
  have hc' := cells_below hc hB
  refine ⟨gset G b fun j => ([iA c, iA pl, sA noText, .imm .nilIface] : List AV)[j]?, ⟨fun g0 i a hga => ?_, hc'.gl.mono hle⟩, hle, fun g0 hg0 => gset_ne _ _ (by omega), .ifc _ _ _ (.ptr b 0 _ fun j a ha => .inr ⟨rfl, by simpa using ha⟩)⟩
  rcases hga with hga | ⟨rfl, hga⟩
  · obtain ⟨v, k1, k2, k3⟩ := hc'.get _ _ _ hga
    exact ⟨v, k1, k2, k3.mono hle⟩
  · have cell : ∀ (j : Nat) (v : Value), (#[Value.int .i64 c, .int .i64 pl, .string ⟨#[]⟩, .nilIface] : Array Value)[j]? = some v → w'.cell? ⟨g0, j, none⟩ = some v := fun j v hv => by
      simp [World.cell?, hh, hv]
    match i with
    | 0 => cases hga; exact ⟨_, cell 0 _ rfl, rfl, .imm _ rfl⟩
    | 1 => cases hga; exact ⟨_, cell 1 _ rfl, rfl, .imm _ rfl⟩
    | 2 => cases hga; exact ⟨_, cell 2 _ rfl, rfl, .imm _ rfl⟩
    | 3 => cases hga; exact ⟨_, cell 3 _ rfl, rfl, .imm _ rfl⟩
    | i + 4 => simp at hga
theorem valid_bad (ps : List Part) (hb : PB ps) (c pl : Int) (hv : validF ps = some (c, pl)) : Has Tryz.prog 19 [.agg [psA ps]] (faultA c pl) noTok := by
  refine has_more Tryz.func19 rfl rfl rfl fun G w vals hc hl hr => ?_
  obtain ⟨l⟩ := vals
  match l, hl with
  | [v], _ =>
    have h0 := hr 0 v (.agg [psA ps]) rfl rfl
    cases h0 with
    | agg vs _ hl1 h1 h2 =>
      obtain ⟨l⟩ := vs
      match l, hl1 with
      | [pv], _ =>
        have hp := parts_of hc (h2 0 pv _ rfl rfl) hb
        refine (valid_c ps pv w hp).mono ?_
        rintro e w' ⟨v, rfl, hv'⟩
        rw [hv] at hv'
        obtain ⟨hB, b, rfl, hbw, hh⟩ := hv'
        obtain ⟨G', k1, k2, k3, k4⟩ := fault_ghost hc hB hbw hh
        exact ⟨_, G', rfl, hB, k1, k2, k3, k4⟩
theorem check_bad (ps : List Part) (scope : Int) (hsc : R64 scope) (hb : PB ps) (c pl : Int) (hv : checkF ps scope = .inl (c, pl, none)) : Has Tryz.prog 20 [.agg [psA ps], iA scope] (.tup [.sl [], faultA c pl]) noTok := by
  refine has_more Tryz.func20 rfl rfl rfl fun G w vals hc hl hr => ?_
  obtain ⟨l⟩ := vals
  match l, hl with
  | [v, sc], _ =>
    have h0 := hr 0 v (.agg [psA ps]) rfl rfl
    have hs := hr 1 sc (iA scope) rfl rfl
    cases hs
    cases h0 with
    | agg vs _ hl1 h1 h2 =>
      obtain ⟨l⟩ := vs
      match l, hl1 with
      | [pv], _ =>
        have hp := parts_of hc (h2 0 pv _ rfl rfl) hb
        refine (check_c ps pv scope w hp (glob_of hc) hsc).mono ?_
        rintro e w' ⟨tv, ev, rfl, hv'⟩
        rw [hv] at hv'
        obtain ⟨hB, rfl, b, hbw, rfl, hh⟩ := hv'
        obtain ⟨G', k1, k2, k3, k4⟩ := fault_ghost hc hB hbw hh
        refine ⟨_, G', rfl, hB, k1, k2, k3, .tup _ _ rfl fun j v a h1 h2 => ?_⟩
        match j with
        | 0 => cases h1; cases h2; exact .nil
        | 1 => cases h1; cases h2; exact k4
        | j + 2 => simp at h1
theorem plan_bad1 (ps : List Part) (scope : Int) (hb : PB ps) (c pl : Int) (hv : validF ps = some (c, pl)) : Has Tryz.prog 13 [.agg [psA ps], iA scope] (.tup [.agg [.sl [], .sl []], iA c]) noTok := by
  refine fnX mixed ⟨[0, 1, 2, 4, 5, 6, 8, 9, 10, 11, 12, 16, 27], [2, 4, 34, 42, 45, 10045], [], [(11, [45, 10045])], []⟩ Tryz.func13 rfl rfl rfl (by kernel_rfl) rfl ?_
  have h1 := valid_bad ps hb c pl hv
  have h2 := code_h c pl
  simp only [faultA, psA] at h1 h2
  simp [psA]
  refine callP_of h1 (by simp) (by simp) ?_
  simp
  refine callP_of h2 (by simp) (by simp) ?_
  simp
theorem plan_bad2 (ps : List Part) (scope : Int) (hsc : R64 scope) (hb : PB ps) (hv : validF ps = none) (c pl : Int) (hk : checkF ps scope = .inl (c, pl, none)) : Has Tryz.prog 13 [.agg [psA ps], iA scope] (.tup [.agg [.sl [], .sl []], iA c]) noTok := by
  refine fnX mixed ⟨[0, 1, 2, 4, 5, 6, 8, 9, 10, 11, 12, 16, 27], [2, 4, 34, 42, 45, 10045], [], [(11, [45, 10045])], []⟩ Tryz.func13 rfl rfl rfl (by kernel_rfl) rfl ?_
  have h1 := check_bad ps scope hsc hb c pl hk
  have h2 := code_h c pl
  have h3 := valid_ok ps hb hv
  simp only [faultA, psA] at h1 h2 h3
  simp [psA]
  refine callP_of h3 (by simp) (by simp) ?_
  simp
  refine callP_of h1 (by simp) (by simp) ?_
  simp
  refine callP_of h2 (by simp) (by simp) ?_
  simp
def codeF (ps : List Part) (scope : Int) : Int := match validF ps with
  | some q => q.1
  | none => match checkF ps scope with
    | .inl q => q.1
    | .inr _ => 0
def planX (ps : List Part) (scope : Int) : List PartD × List (List PartD) := match checkF ps scope with
  | .inl _ => ([], [])
  | .inr _ => planF ps
theorem check_cause {ps : List Part} {scope c pl : Int} {k : Option Int} (hv : validF ps = none) (h : checkF ps scope = .inl (c, pl, k)) : k = none := by
  unfold checkF at h
  split at h
  · cases h; rfl
  · rw [hv] at h
    simp only at h
    split at h
    · cases h; rfl
    · split at h
      · cases h; rfl
      · cases h
theorem check_valid {ps : List Part} {scope : Int} {q : Int × Int} (hv : validF ps = some q) : ∃ r, checkF ps scope = .inl r := by
  unfold checkF
  split
  · exact ⟨_, rfl⟩
  · obtain ⟨c, pl⟩ := q
    rw [hv]
    exact ⟨_, rfl⟩
theorem plan_h (ps : List Part) (scope : Int) (hsc : R64 scope) (hb : PB ps) : Has Tryz.prog 13 [.agg [psA ps], iA scope] (.tup [.agg [partsA (planX ps scope).1, selsA (planX ps scope).2], iA (codeF ps scope)]) noTok := by
  rcases hv : validF ps with _ | ⟨c, pl⟩
  · rcases hk : checkF ps scope with ⟨c, pl, k⟩ | ts
    · obtain rfl := check_cause hv hk
      have := plan_bad2 ps scope hsc hb hv c pl hk
      simpa [codeF, planX, hv, hk, partsA, selsA] using this
    · have := plan_good ps scope hsc hb ts hk
      simpa [codeF, planX, hv, hk] using this
  · obtain ⟨r, hr⟩ := check_valid (scope := scope) hv
    have := plan_bad1 ps scope hb c pl hv
    simpa [codeF, planX, hv, hr, partsA, selsA] using this
end Go.Proofs.YtldnkeackphilaaGreatDoor.X
namespace Go.Proofs.YtldnkeackphilaaGreatDoor.X
open Go.RowKit

theorem sides_code {kind num f g : Int} {mv : Bool} {i a b : Int} {q : Int × Int} (h : sidesG kind num f g mv i a b = some q) : q.1 ≠ 0 := by
  unfold sidesG at h
  by_cases h1 : f ≠ 2 ∧ f ≠ 3
  · rw [if_pos h1] at h; cases h; simp
  · rw [if_neg h1] at h
    by_cases h2 : (if kind = 7 then g = 6 ∨ (g = 4 ∧ f = 2) ∨ (g = 5 ∧ f = 3) else g = f)
    · rw [if_neg (fun hn => hn h2)] at h
      by_cases h3 : kind = 6 ∧ f = 2 ∧ 2 < num
      · rw [if_pos h3] at h; cases h; simp
      · rw [if_neg h3] at h
        cases mv
        · cases h
        · cases h; simp
    · rw [if_pos h2] at h; cases h; simp
theorem code_pos {ps : List Part} {sc : List Int} : ∀ (l : List Part) (i : Nat) (ts0 : List (Int × Int)) (q : Int × Int), typesGo ps sc l i ts0 = .inl q → q.1 ≠ 0
  | [], _, _, _, h => by simp [typesGo] at h
  | p :: r, i, ts0, q, h => by
    rw [typesGo] at h
    split at h
    · next f hf =>
      cases h
      have orE : ∀ {g : Option (Int × Int)} {u : Int × Int}, orElse g u = .inl q → g = some q := fun {g u} h => by
        unfold orElse at h
        split at h
        · cases h; rfl
        · cases h
      have hb : ∀ (ts : List (Int × Int)) (kids : List Int), boolsF ts kids = some q → q.1 ≠ 0 := fun ts kids h => by
        unfold boolsF at h
        obtain ⟨k, -, rfl⟩ := Option.map_eq_some_iff.1 h
        simp
      have hsel : selectorF sc ts0 i p = some q → q.1 ≠ 0 := fun h => by
        unfold selectorF at h
        split at h
        · cases h; simp
        · split at h
          · cases h; simp
          · exact hb _ _ h
      unfold typeF at hf
      split at hf
      · cases hf
      split at hf
      · exact hb _ _ (orE hf)
      split at hf
      · have := orE hf
        exact sides_code this
      split at hf
      · exact hsel (orE hf)
      split at hf
      · exact hsel (orE hf)
      split at hf
      · cases hf
      split at hf
      · cases hf
      split at hf
      · unfold setF at hf
        split at hf
        · cases hf
        · split at hf
          · cases hf; simp
          · split at hf <;> cases hf
      split at hf
      · split at hf
        · cases hf; simp
        · cases hf
      · unfold speaksF at hf
        repeat' split at hf
        all_goals first
          | (cases hf; done)
          | (injection hf with hf; subst hf; simp)
    · exact code_pos r (i + 1) _ q h
theorem codes {ps : List Part} {scope : Int} : (codeF ps scope ≠ 0 → planX ps scope = ([], [])) ∧ (codeF ps scope = 0 → ∃ ts, checkF ps scope = .inr ts ∧ planX ps scope = planF ps) := by
  rcases hv : validF ps with _ | ⟨c, pl⟩
  · rcases hk : checkF ps scope with ⟨c, pl, k⟩ | ts
    · refine ⟨fun _ => by simp [planX, hk], fun h => ?_⟩
      exfalso
      have hc : c = 0 := by simpa [codeF, hv, hk] using h
      subst hc
      unfold checkF at hk
      split at hk
      · simp at hk
      · rw [hv] at hk
        simp only at hk
        split at hk
        · next q1 q2 hq =>
          have := code_pos _ _ _ _ hq
          simp only [Sum.inl.injEq, Prod.mk.injEq] at hk
          exact this hk.1
        · split at hk
          · simp at hk
          · cases hk
    · exact ⟨fun h => absurd (by simp [codeF, hv, hk]) h, fun _ => ⟨ts, rfl, by simp [planX, hk]⟩⟩
  · obtain ⟨r, hr⟩ := check_valid (scope := scope) hv
    refine ⟨fun _ => by simp [planX, hr], fun h => ?_⟩
    exfalso
    have hc : c = 0 := by simpa [codeF, hv] using h
    unfold validF at hv
    split at hv
    · cases hv; cases hc
    · obtain ⟨k, -, h⟩ := Option.map_eq_some_iff.1 hv
      cases h; cases hc
theorem copy_x (ps : List Part) (hb : PB ps) : Has Tryz.prog 14 [.agg [psA ps]] (.agg [psA ps]) noTok := copy_h ps ⟨by have := hb.len; omega, fun p hp => (hb.part p hp).2.2.2.1⟩
set_option maxRecDepth 8000
end Go.Proofs.YtldnkeackphilaaGreatDoor.X
namespace Go.Proofs.YtldnkeackphilaaGreatDoor.X
open Go.RowKit

theorem valid_code {ps : List Part} {c pl : Int} (h : validF ps = some (c, pl)) : c ≠ 0 := by
  rintro rfl
  have h0 : codeF ps 2 = 0 := by simp [codeF, h]
  obtain ⟨ts, h1, -⟩ := codes.2 h0
  have := (typed_of h1).valid
  rw [h] at this
  cases this
set_option maxRecDepth 8000
end Go.Proofs.YtldnkeackphilaaGreatDoor.X
namespace Go.Proofs.YtldnkeackphilaaGreatDoor.X
open Go.RowKit

theorem cond13 (k : Int) : Has Tryz.prog 90 [iA k] (bA (isCondF k)) noTok := by
  refine fnX mixed ⟨[0, 2], [], [], [], []⟩ Tryz.func90 rfl rfl rfl (by kernel_rfl) rfl ?_
  simp [isCondF]
theorem term13 (k : Int) : Has Tryz.prog 188 [iA k] (bA (isTermF k)) noTok := by
  refine fnX mixed ⟨[0, 2], [], [], [], []⟩ Tryz.func188 rfl rfl rfl (by kernel_rfl) rfl ?_
  simp [isTermF]
theorem brackets13 (k d : Int) : Has Tryz.prog 91 [iA k, iA d] (bA (bracketedF k d)) noTok := by
  refine fnX mixed ⟨[0, 1, 4, 5, 6, 15], [], [], [], []⟩ Tryz.func91 rfl rfl rfl (by kernel_rfl) rfl ?_
  simp
  grind [bracketedF]
theorem kids13 (k n : Int) : Has Tryz.prog 136 [iA k, iA n] (bA (kidCountF k n)) noTok := by
  refine fnX mixed ⟨[0, 1, 4, 5, 6, 14, 19, 24], [], [], [], []⟩ Tryz.func136 rfl rfl rfl (by kernel_rfl) rfl ?_
  simp
  repeat' first
    | refine And.intro ?_ ?_
    | intro _
  all_goals simp_all [kidCountF]
theorem class13 (k d : Int) : Has Tryz.prog 138 [iA k, iA d] (bA (if k = 6 ∨ k = 7 ∨ k = 19 then isTermF d else if k = 13 then decide (d = 11 ∨ d = 12) else isCondF d)) noTok := by
  refine fnX mixed ⟨[0, 1, 4, 5, 6, 12], [], [], [], []⟩ Tryz.func138 rfl rfl rfl (by kernel_rfl) rfl ?_
  simp
  repeat' first
    | refine And.intro ?_ ?_
    | intro _
    | (refine callP_of (term13 d) (by simp) (by simp) ?_; simp)
    | (refine callP_of (cond13 d) (by simp) (by simp) ?_; simp)
  all_goals simp_all
  by_cases h : d = 12 <;> simp [h]
def holdsF (p : Part) : Bool := decide (p.text.size ≤ 127) && (p.text.toList.isEmpty || usesTextF p.kind) && numFitsF p.kind p.num
set_option maxRecDepth 8000 in
theorem holds13 (p : Part) : Has Tryz.prog 137 [.agg (pCs p)] (bA (holdsF p)) noTok := by
  refine fnX mixed ⟨[0, 1, 2, 4, 5, 20, 35, 50, 65, 82], [1], [], [], []⟩ Tryz.func137 rfl rfl rfl (by kernel_rfl) rfl ?_
  simp [pCs, intsA]
  have h0 : p.text.toList = [] → p.text.size ≤ 127 := fun h => by
    rw [Lib.toList_data] at h
    have : p.text.data.size = 0 := by simpa using congrArg List.length h
    exact Nat.le_trans (Nat.le_of_eq this) (by decide)
  repeat' first
    | refine And.intro ?_ ?_
    | intro _
  all_goals
    simp only [holdsF, usesTextF, numFitsF]
    revert h0
    generalize p.text.toList = tl
    generalize p.text.size = sz
    intro h0
    simp_all
  all_goals grind
end Go.Proofs.YtldnkeackphilaaGreatDoor.X
namespace Go.Proofs.YtldnkeackphilaaGreatDoor.X
open Go.RowKit

def classF (k d : Int) : Bool := if k = 6 ∨ k = 7 ∨ k = 19 then isTermF d else if k = 13 then decide (d = 11 ∨ d = 12) else isCondF d
theorem class_fits {k d : Int} {n : Nat} (h : kidCountF k n = true) (hn : 0 < n) (hk : 1 ≤ k ∧ k ≤ 20) : classF k d = kidFitsF k d := by
  unfold classF kidFitsF
  unfold kidCountF at h
  split at h
  · next h1 =>
    by_cases h19 : k = 19
    · subst h19; simp
    · rw [if_neg (by omega), if_neg (by omega), if_pos (by omega)]
  · split at h
    · next h1 => rw [if_neg (by omega), if_neg (by omega), if_pos (by omega)]
    · split at h
      · next h1 => rw [if_pos (by omega), if_neg (by omega), if_neg (by omega)]
      · split at h
        · next h1 => subst h1; simp
        · have : (n : Int) = 0 := by simpa using h
          omega
set_option maxRecDepth 8000 in
set_option maxHeartbeats 1000000 in
theorem part13 (ps : List Part) (i : Nat) (p : Part) (hp : ps[i]? = some p) (free : List Int) (hf : ∀ x ∈ free, 0 ≤ x ∧ x < (ps.length : Int)) (hfl : free.length ≤ 35184372088064) (hkl : p.kids.length ≤ 35184372088064) (res : Bool) (hr : Hid (res = partOk ps free p)) :
    Has Tryz.prog 89 [.agg [psA ps], iA i, intsA free] (bA res) noTok := by
  have hil := (List.getElem?_eq_some_iff.1 hp).1
  refine fnX mixed ⟨[0, 1, 2, 3, 6, 7, 8, 9, 10, 11, 41, 45, 56, 70, 84], [3, 7], [(3, [3]), (7, [7]), (59, [7]), (72, [3]), (74, [7])], [], []⟩ Tryz.func89 rfl rfl rfl (by kernel_rfl) rfl ?_
  have k1 := kids13 p.kind p.kids.length
  have k2 := holds13 p
  simp only [pCs, intsA] at k2
  simp [psA, pCs, intsA, hp, hil, -getElem?_pos]
  refine callP_of k1 (by simp) (by simp) ?_
  simp [psA, pCs, intsA, hp, hil, -getElem?_pos]
  have hdef : partOk ps free p = (decide (1 ≤ p.kind) && decide (p.kind ≤ 20) && holdsF p && kidCountF p.kind p.kids.length && decide (p.kids.length ≤ free.length) && decide (p.kids = free.drop (free.length - p.kids.length)) && p.kids.all fun k => kidFitsF p.kind (kindAt ps k)) := by
    unfold partOk partFitsF holdsF
    cases decide (1 ≤ p.kind) <;> cases decide (p.kind ≤ 20) <;> cases decide (p.text.size ≤ 127) <;> cases (p.text.toList.isEmpty || usesTextF p.kind) <;> cases numFitsF p.kind p.num <;> cases kidCountF p.kind p.kids.length <;> simp
  have hR : res = partOk ps free p := hr.out
  rw [hdef] at hR
  refine ⟨fun hb => ?_, fun b1 b2 b3 b4 => ?_⟩
  · rw [hR]
    rcases hb with ((hb | hb) | hb) | hb
    · simp [hb]
    · have : decide (1 ≤ p.kind) = false := by simp; omega
      simp [this]
    · have : decide (p.kind ≤ 20) = false := by simp; omega
      simp [this]
    · have : decide (p.kids.length ≤ free.length) = false := by simp; omega
      simp [this]
  refine callP_of k2 (by simp) (by simp) ?_
  have w1 : IntKind.i64.wrap ((free.length : Int) - p.kids.length) = (free.length : Int) - p.kids.length := wrap64 (by omega) (by omega)
  simp [psA, pCs, intsA, hp, hil, w1, -getElem?_pos]
  refine ⟨fun hb => by rw [hR]; simp [hb], fun b5 => ?_⟩
  have hk20 : 1 ≤ p.kind ∧ p.kind ≤ 20 := by omega
  have b1' : kidCountF p.kind p.kids.length = true := by simpa using b1
  refine wF_loop [] [.slot 3 3, .slot 7 7] [2, 3, 7, 8, 10, 11] (fun j : Nat => St.asc [(2, .sl (free.map fun n => [iA n])), (3, .ref 3 0), (7, .ref 7 0), (8, iA p.kind), (10, iA ((free.length : Int) - p.kids.length)), (11, iA j)] [(3, .box 30 [.sl (ps.map pCs)]), (7, .box 66 [iA p.kind, sA p.text, iA p.num, .sl (p.kids.map fun n => [iA n])])] [(3, true), (7, true)] false)
    (fun j => j ≤ p.kids.length ∧ p.kids.take j = (free.drop (free.length - p.kids.length)).take j ∧ ∀ k ∈ p.kids.take j, classF p.kind (kindAt ps k) = true) (fun j => p.kids.length - j) 0 _ (by simp) (by simp) (by simp) ?_
  rintro j ⟨hj, hjm, hjc⟩
  by_cases hjl : j < p.kids.length
  · have hy : p.kids[j]? = some p.kids[j] := List.getElem?_eq_getElem hjl
    have hz : free[free.length - p.kids.length + j]? = some free[free.length - p.kids.length + j] := List.getElem?_eq_getElem (by omega)
    have hzm := hf free[free.length - p.kids.length + j] (List.getElem_mem _)
    generalize p.kids[j] = y at *
    generalize free[free.length - p.kids.length + j] = z at *
    have w3 : IntKind.i64.wrap ((free.length : Int) - p.kids.length + j) = (free.length : Int) - p.kids.length + j := wrap64 (by omega) (by omega)
    have w4 : ((free.length : Int) - p.kids.length + j).toNat = free.length - p.kids.length + j := by omega
    have w5 : IntKind.i64.wrap ((j : Int) + 1) = (j : Int) + 1 := wrap64 (by omega) (by omega)
    have w6 : (0 : Int) ≤ (free.length : Int) - p.kids.length + j ∧ (free.length : Int) - p.kids.length + j < free.length := by omega
    have hdz : (free.drop (free.length - p.kids.length))[j]? = some z := by rw [List.getElem?_drop]; exact hz
    by_cases hyz : y = z
    · subst hyz
      obtain ⟨q, hq⟩ : ∃ q, ps[y.toNat]? = some q := ⟨_, List.getElem?_eq_getElem (by omega)⟩
      have hkq : kindAt ps y = q.kind := by simp [kindAt, hq]
      have k3 := class13 p.kind q.kind
      change Has _ _ _ (bA (classF p.kind q.kind)) noTok at k3
      simp [hjl, hy, hz, hq, hzm.1, hzm.2, w3, w4, w5, w6, pCs, intsA, -getElem?_pos]
      refine callP_of k3 (by simp) (by simp) ?_
      simp [hjl, hy, hz, hq, hzm.1, hzm.2, w3, w4, w5, w6, pCs, intsA, -getElem?_pos]
      refine ⟨fun hb => ?_, fun hb => ⟨j + 1, by simp, ⟨by omega, ?_, fun k hk => ?_⟩, by omega⟩⟩
      · rw [hR]
        have : (p.kids.all fun k => kidFitsF p.kind (kindAt ps k)) = false := by
          rw [Bool.eq_false_iff]
          intro h
          have := List.all_eq_true.1 h y (List.mem_of_getElem? hy)
          rw [hkq, ← class_fits b1' (by omega) hk20, hb] at this
          cases this
        rw [this, Bool.and_false]
      · rw [List.take_add_one, List.take_add_one, hjm, hy, hdz]
      · rw [List.take_add_one, hy] at hk
        rcases List.mem_append.1 hk with hk | hk
        · exact hjc k hk
        · simp at hk
          rw [hk, hkq]
          exact hb
    · have hres : res = false := by
        rw [hR]
        have : decide (p.kids = free.drop (free.length - p.kids.length)) = false := by
          rw [decide_eq_false_iff_not]
          intro h
          rw [← h, hy] at hdz
          exact hyz (by simpa using hdz)
        rw [this]
        simp
      simp [hjl, hy, hz, hyz, hres, w3, w4, w5, w6, -getElem?_pos]
  · have hje : j = p.kids.length := by omega
    subst hje
    have hres : res = true := by
      rw [hR, b1', b5]
      have e1 : p.kids = free.drop (free.length - p.kids.length) := by
        rw [List.take_length] at hjm
        rw [hjm]
        rw [← hjm]
        refine hjm.trans (List.take_of_length_le ?_)
        rw [List.length_drop]; omega
      have e2 : (p.kids.all fun k => kidFitsF p.kind (kindAt ps k)) = true := List.all_eq_true.2 fun k hk => by
        rw [← class_fits b1' (List.length_pos_of_mem hk) hk20]
        exact hjc k (by rw [List.take_length]; exact hk)
      rw [decide_eq_true e1, e2]
      simp
      omega
    simp [hres]
end Go.Proofs.YtldnkeackphilaaGreatDoor.X
namespace Go.Proofs.YtldnkeackphilaaGreatDoor.X
open Go.RowKit

def formF (ps : List Part) : Int × Int := match shapeF ps with
  | none => (0, 0)
  | some i => (130, i)
set_option maxRecDepth 8000 in
set_option maxHeartbeats 1000000 in
theorem form13 (ps : List Part) (hk : ∀ p ∈ ps, p.kids.length ≤ 35184372088064) (hl : ps.length ≤ 35184372088064) (r : Int × Int) (hr : Hid (r = formF ps)) : Has Tryz.prog 48 [.agg [psA ps]] (.tup [iA r.1, iA r.2]) noTok := by
  refine fnX mixed ⟨[0, 1, 2, 3, 4, 5, 6, 7, 8, 12, 16, 21, 29, 66], [1, 4, 31, 44, 47, 48], [], [(9, [4])], []⟩ Tryz.func48 rfl rfl rfl (by kernel_rfl) rfl ?_
  have hR : r = formF ps := hr.out
  simp [psA]
  refine ⟨fun h0 => ?_, fun h0 => ⟨fun h1 => ?_, fun h1 => ?_⟩⟩
  · rw [hR]; simp [formF, shapeF, h0]
  · rw [hR]
    have h2 : ¬ ps.length = 0 := by omega
    have h3 : 1000 < ps.length := by omega
    simp [formF, shapeF, h0, h3]
  refine wF_loop [.slot 4 4 3] [.slot 1 1, .slot 4 4] [1, 4, 5] (fun x : Nat × List Int => St.asc [(1, .ref 1 0), (4, .rw 4 0 x.2.length), (5, iA x.1)] [(1, .box 30 [.sl (ps.map pCs)]), (4, .row 3 (x.2.map fun n => [iA n]))] [(1, true), (4, true)] false)
    (fun x => x.1 ≤ ps.length ∧ (0 < x.1 → x.2 ≠ []) ∧ x.2.length ≤ x.1 ∧ (∀ k ∈ x.2, 0 ≤ k ∧ k < (x.1 : Int)) ∧ shapeGo ps (ps.drop x.1) x.1 x.2 = shapeGo ps ps 0 []) (fun x => ps.length - x.1) (0, []) _ (by simp) (by simp) (by simp) ?_
  rintro ⟨i, free⟩ ⟨hi, hne, hfl, hfm, hgo⟩
  simp only at hi hne hfl hfm hgo
  by_cases h : i < ps.length
  · have hx : ps[i]? = some ps[i] := List.getElem?_eq_getElem h
    have hkx := hk ps[i] (List.getElem_mem h)
    generalize ps[i] = p at *
    have w1 : IntKind.i64.wrap ((i : Int) + 1) = (i : Int) + 1 := wrap64 (by omega) (by omega)
    have hP := part13 ps i p hx free (fun k hk => by have := hfm k hk; omega) (by omega) hkx _ (Lib.hid rfl)
    simp only [psA, intsA] at hP
    have ht : List.take free.length (free.map fun n => [iA n]) = free.map fun n => [iA n] := List.take_of_length_le (by simp)
    simp [hx, h, w1, ht, -getElem?_pos]
    have hdrop : ps.drop i = p :: ps.drop (i + 1) := by
      obtain ⟨hil, rfl⟩ := List.getElem?_eq_some_iff.1 hx
      exact List.drop_eq_getElem_cons hil
    cases hok : partOk ps free p with
    | false =>
      rw [hok] at hP
      refine callP_of hP (by simp) (by simp) ?_
      simp [h, ht, pCs, intsA, -getElem?_pos]
      rw [hdrop, shapeGo, hok] at hgo
      have h2 : ¬ ps.length = 0 := by omega
      rw [hR]
      have h1' : ¬ 1000 < ps.length := by omega
      simp [formF, shapeF, h0, h1', ← hgo]
    | true =>
      rw [hok] at hP
      refine callP_of hP (by simp) (by simp) ?_
      have hle : p.kids.length ≤ free.length := by
        simp only [partOk, Bool.and_eq_true, decide_eq_true_eq] at hok
        exact hok.1.1.2
      have w2 : IntKind.i64.wrap ((free.length : Int) - p.kids.length) = (free.length : Int) - p.kids.length := wrap64 (by omega) (by omega)
      have w3 : ((free.length : Int) - p.kids.length).toNat = free.length - p.kids.length := by omega
      simp [hx, h, w1, w2, w3, ht, pCs, intsA, -getElem?_pos]
      refine ⟨by omega, ⟨fun e he => ?_, by omega, by omega⟩, ⟨by omega, by omega⟩, i + 1, free.take (free.length - p.kids.length) ++ [(i : Int)], by simp [List.map_take], ⟨by omega, by simp, by simp; omega, fun k hk => ?_, ?_⟩, by omega⟩
      · obtain ⟨n, -, rfl⟩ := List.mem_map.1 (List.mem_of_mem_take he)
        rfl
      · rcases List.mem_append.1 hk with hk | hk
        · have := hfm k (List.mem_of_mem_take hk); omega
        · simp at hk; omega
      · rw [← hgo, hdrop, shapeGo, hok]
        rfl
  · have hie : i = ps.length := by omega
    subst hie
    have hd : ps.drop ps.length = [] := List.drop_length
    rw [hd, shapeGo] at hgo
    have hpos : 0 < ps.length := List.length_pos_iff.2 h0
    have hx : ps[ps.length - 1]? = some ps[ps.length - 1] := List.getElem?_eq_getElem (by omega)
    generalize ps[ps.length - 1] = p at *
    have hC := cond13 p.kind
    have w1 : IntKind.i64.wrap ((ps.length : Int) - 1) = (ps.length : Int) - 1 := wrap64 (by omega) (by omega)
    have w2 : ((ps.length : Int) - 1).toNat = ps.length - 1 := by omega
    have w3 : (1 : Int) ≤ ps.length := by omega
    have hfne := List.length_pos_iff.2 (hne hpos)
    simp [hx, w1, w2, w3, pCs, intsA, -getElem?_pos]
    refine ⟨by omega, callP_of hC (by simp) (by simp) ?_⟩
    simp [hx, w1, w2, w3, pCs, intsA, -getElem?_pos]
    have hkd : kindAt ps ((ps.length - 1 : Nat) : Int) = p.kind := kindAt_nat ps _ p hx
    have h1' : ¬ 1000 < ps.length := by omega
    have hF : formF ps = if isCondF p.kind && decide (free.length = 1) then (0, 0) else (130, (ps.length : Int) - 1) := by
      have e : ((ps.length - 1 : Nat) : Int) = (ps.length : Int) - 1 := by omega
      unfold formF shapeF
      rw [if_neg (by omega), if_neg h1', ← hgo]
      rw [e] at hkd
      simp only [e, hkd]
      cases (isCondF p.kind && decide (free.length = 1)) <;> rfl
    rw [hR, hF]
    refine ⟨fun hb => ?_, fun hb hb2 => ?_⟩
    · have : (isCondF p.kind && decide (free.length = 1)) = false := by
        rcases hb with hb | hb
        · simp [hb]
        · have : decide (free.length = 1) = false := by simp; omega
          simp [this]
      simp [this]
    · have : free.length = 1 := by omega
      simp [hb, this]
end Go.Proofs.YtldnkeackphilaaGreatDoor.X
namespace Go.Proofs.YtldnkeackphilaaGreatDoor.X
open Go.RowKit

theorem zon_int : zonP Tryz.prog 3 = some (.int .i64 0) := by kernel_rfl
theorem kidsSet_at (ps : List Part) (pk b : Int) (i : Nat) : ∀ (kids : List Int) (out : List Int), (∀ k ∈ kids, 0 ≤ k ∧ k < (i : Int)) → (kidsSet ps pk b kids out)[i]? = out[i]?
  | [], _, _ => rfl
  | k :: r, out, h => by
    have h1 := h k (by simp)
    have e : kidsSet ps pk b (k :: r) out = kidsSet ps pk b r (out.set k.toNat (b + if bracketedF pk (kindAt ps k) then 1 else 0)) := rfl
    rw [e, kidsSet_at ps pk b i r _ (fun j hj => h j (by simp [hj])), List.getElem?_set_ne (by omega)]
set_option maxRecDepth 8000 in
set_option maxHeartbeats 1000000 in
theorem nests13 (ps : List Part) (hw : WF ps) (hkl : ∀ (i : Nat) p, ps[i]? = some p → p.kids.length ≤ 1000) (r : List Int) (hr : Hid (r = nestsF ps)) : Has Tryz.prog 49 [.agg [psA ps]] (intsA r) noTok := by
  have hle := hw.le
  have hpos := hw.pos
  refine fnX mixed ⟨[0, 1, 2, 3, 4, 5, 6, 7, 8, 9, 19, 45, 54, 83], [1, 13], [], [], []⟩ Tryz.func49 rfl rfl rfl (by kernel_rfl) (by simp [intsA]) ?_
  have w0 : ps.length ≤ 17592186044416 := by omega
  have w1 : IntKind.i64.wrap ((ps.length : Int) - 1) = (ps.length : Int) - 1 := wrap64 (by omega) (by omega)
  simp [psA, zon_int, w0, w1]
  refine wF_loop [] [.slot 1 1, .slot 3 13] [1, 3, 4] (fun x : Nat × List Int => St.asc [(1, .ref 1 0), (3, .rw 13 0 ps.length), (4, iA ((x.1 : Int) - 1))] [(1, .box 30 [.sl (ps.map pCs)]), (13, .row 3 (x.2.map fun n => [iA n]))] [(1, true), (13, true)] false)
    (fun x => x.1 ≤ ps.length ∧ x.2.length = ps.length ∧ (∀ y ∈ x.2, 0 ≤ y ∧ y ≤ 2 * ((ps.length : Int) - x.1)) ∧ nestsF ps = (List.range x.1).reverse.foldl (nestStep ps) x.2) (fun x => x.1) (ps.length, List.replicate ps.length 0) _ (by simp) (by simp) ⟨by simp, by simp, fun y hy => by have := List.eq_of_mem_replicate hy; simp only; omega, rfl⟩ ?_
  rintro ⟨m, out⟩ ⟨hm, hol, hob, hgo⟩
  simp only at hm hol hob hgo
  by_cases hm0 : m = 0
  · subst hm0
    simp only [List.range_zero, List.reverse_nil, List.foldl_nil] at hgo
    have hR : r = out := hr.out.trans hgo
    subst hR
    simp [intsA, hol]
    exact List.take_of_length_le (by simp [hol])
  · obtain ⟨i, rfl⟩ : ∃ i, m = i + 1 := ⟨m - 1, by omega⟩
    have hil : i < ps.length := by omega
    have hx : ps[i]? = some ps[i] := List.getElem?_eq_getElem hil
    have hkd := hw.kids i ps[i] hx
    have hkl1 := hkl i ps[i] hx
    generalize ps[i] = p at *
    have w3 : ((i + 1 : Nat) : Int) - 1 = i := by omega
    have w4 : IntKind.i64.wrap ((i : Int) - 1) = (i : Int) - 1 := wrap64 (by omega) (by omega)
    simp [hx, hil, w3, w4, pCs, intsA, -getElem?_pos]
    have hnx := nests_next (out := out) hx
    refine ⟨fun hd => ?_, fun d1 d2 d3 d4 d5 => ?_⟩
    · have hdk : deepKind p.kind = true := by simp only [deepKind]; simp; omega
      rw [hdk] at hnx
      simp only [if_true] at hnx
      refine wF_loop [] [.slot 1 1, .slot 3 13] [1, 3, 4, 5, 6, 7] (fun j : Nat => St.asc [(1, .ref 1 0), (3, .rw 13 0 ps.length), (4, iA i), (5, iA p.kind), (6, iA 1), (7, iA j)] [(1, .box 30 [.sl (ps.map pCs)]), (13, .row 3 ((kidsSet ps p.kind (out.getD i 0 + 1) (p.kids.take j) out).map fun n => [iA n]))] [(1, true), (13, true)] false)
        (fun j => j ≤ p.kids.length) (fun j => p.kids.length - j) 0 _ (by simp) (by simp [show ∀ b, kidsSet ps p.kind b [] out = out from fun _ => rfl]) (by simp) ?_
      intro j hj
      by_cases hjl : j < p.kids.length
      · have hy : p.kids[j]? = some p.kids[j] := List.getElem?_eq_getElem hjl
        have hyk := hkd p.kids[j] (List.getElem_mem hjl)
        generalize p.kids[j] = y at *
        have hK : ∀ k ∈ p.kids.take j, 0 ≤ k ∧ k < (i : Int) := fun k hk => hkd k (List.mem_of_mem_take hk)
        have hz : (kidsSet ps p.kind (out.getD i 0 + 1) (p.kids.take j) out)[i]? = some (out.getD i 0) := by
          rw [kidsSet_at ps p.kind _ i _ _ hK, List.getD_eq_getElem?_getD, List.getElem?_eq_getElem (show i < out.length by omega)]
          rfl
        obtain ⟨q, hq⟩ : ∃ q, ps[y.toNat]? = some q := ⟨_, List.getElem?_eq_getElem (by omega)⟩
        have hzb := hob (out.getD i 0) (by rw [List.getD_eq_getElem?_getD, List.getElem?_eq_getElem (show i < out.length by omega)]; exact List.getElem_mem _)
        have hll : (kidsSet ps p.kind (out.getD i 0 + 1) (p.kids.take j) out).length = ps.length := by rw [kidsSet_len, hol]
        generalize hgo2 : kidsSet ps p.kind (out.getD i 0 + 1) (p.kids.take j) out = O at *
        generalize out.getD i 0 = z at *
        have w5 : IntKind.i64.wrap (z + 1) = z + 1 := wrap64 (by omega) (by omega)
        obtain ⟨o, ho⟩ : ∃ o, O[y.toNat]? = some o := ⟨_, List.getElem?_eq_getElem (by omega)⟩
        have hyl : y < (ps.length : Int) := by omega
        have hyn : y.toNat < O.length := by omega
        have w6 : IntKind.i64.wrap (z + 1 + 1) = z + 1 + 1 := wrap64 (by omega) (by omega)
        have w7 : IntKind.i64.wrap ((j : Int) + 1) = (j : Int) + 1 := wrap64 (by have := hw.le; omega) (by omega)
        simp [hx, hil, hy, hjl, hq, hz, ho, hyk.1, hyl, w5, hll, pCs, intsA, -getElem?_pos]
        refine callP_of (brackets13 p.kind q.kind) (by simp) (by simp) ?_
        simp [hx, hil, hy, hjl, hq, hz, ho, hyk.1, hyl, hyn, w5, w6, w7, hll, pCs, intsA, -getElem?_pos]
        have hkq : kindAt ps y = q.kind := by simp [kindAt, hq]
        have ht : p.kids.take (j + 1) = p.kids.take j ++ [y] := by rw [List.take_add_one, hy]; rfl
        have hK2 : kidsSet ps p.kind (z + 1) (p.kids.take (j + 1)) out = O.set y.toNat (z + 1 + if bracketedF p.kind q.kind then 1 else 0) := by rw [ht, kidsSet_snoc, hgo2, hkq]
        refine ⟨fun hb => ⟨j + 1, ?_, by omega, by omega⟩, fun hb => ⟨j + 1, ?_, by omega, by omega⟩⟩
        · simp [hK2, hb, List.map_set]
        · simp [hK2, hb, List.map_set]
      · have hje : j = p.kids.length := by omega
        subst hje
        have hd0 : 0 ≤ out.getD i 0 ∧ out.getD i 0 ≤ 2 * ((ps.length : Int) - (i + 1 : Nat)) := hob _ (by rw [List.getD_eq_getElem?_getD, List.getElem?_eq_getElem (show i < out.length by omega)]; exact List.getElem_mem _)
        have hbd : ∀ y ∈ kidsSet ps p.kind (out.getD i 0 + 1) p.kids out, 0 ≤ y ∧ y ≤ 2 * ((ps.length : Int) - i) := kidsSet_bound ps p.kind _ _ (by omega) (by omega) _ _ fun y hy => by have := hob y hy; omega
        have hkl2 : (kidsSet ps p.kind (out.getD i 0 + 1) p.kids out).length = ps.length := by rw [kidsSet_len, hol]
        have hfin := hgo.trans hnx
        rw [List.take_length]
        generalize kidsSet ps p.kind (out.getD i 0 + 1) p.kids out = O at *
        simp [hx, hil, w4, pCs, intsA, -getElem?_pos]
        exact ⟨i, O, by simp, ⟨by omega, hkl2, fun y hy => hbd y hy, by simpa using hfin⟩, by omega⟩
    · have hdk : deepKind p.kind = false := by simp only [deepKind]; simp; omega
      rw [hdk] at hnx
      simp only [Bool.false_eq_true, if_false] at hnx
      refine wF_loop [] [.slot 1 1, .slot 3 13] [1, 3, 4, 5, 6, 7] (fun j : Nat => St.asc [(1, .ref 1 0), (3, .rw 13 0 ps.length), (4, iA i), (5, iA p.kind), (6, iA 0), (7, iA j)] [(1, .box 30 [.sl (ps.map pCs)]), (13, .row 3 ((kidsSet ps p.kind (out.getD i 0 + 0) (p.kids.take j) out).map fun n => [iA n]))] [(1, true), (13, true)] false)
        (fun j => j ≤ p.kids.length) (fun j => p.kids.length - j) 0 _ (by simp) (by simp [show ∀ b, kidsSet ps p.kind b [] out = out from fun _ => rfl]) (by simp) ?_
      intro j hj
      by_cases hjl : j < p.kids.length
      · have hy : p.kids[j]? = some p.kids[j] := List.getElem?_eq_getElem hjl
        have hyk := hkd p.kids[j] (List.getElem_mem hjl)
        generalize p.kids[j] = y at *
        have hK : ∀ k ∈ p.kids.take j, 0 ≤ k ∧ k < (i : Int) := fun k hk => hkd k (List.mem_of_mem_take hk)
        have hz : (kidsSet ps p.kind (out.getD i 0 + 0) (p.kids.take j) out)[i]? = some (out.getD i 0) := by
          rw [kidsSet_at ps p.kind _ i _ _ hK, List.getD_eq_getElem?_getD, List.getElem?_eq_getElem (show i < out.length by omega)]
          rfl
        obtain ⟨q, hq⟩ : ∃ q, ps[y.toNat]? = some q := ⟨_, List.getElem?_eq_getElem (by omega)⟩
        have hzb := hob (out.getD i 0) (by rw [List.getD_eq_getElem?_getD, List.getElem?_eq_getElem (show i < out.length by omega)]; exact List.getElem_mem _)
        have hll : (kidsSet ps p.kind (out.getD i 0 + 0) (p.kids.take j) out).length = ps.length := by rw [kidsSet_len, hol]
        generalize hgo2 : kidsSet ps p.kind (out.getD i 0 + 0) (p.kids.take j) out = O at *
        generalize out.getD i 0 = z at *
        simp only [Int.add_zero] at hgo2
        have w5 : IntKind.i64.wrap (z) = z := wrap64 (by omega) (by omega)
        obtain ⟨o, ho⟩ : ∃ o, O[y.toNat]? = some o := ⟨_, List.getElem?_eq_getElem (by omega)⟩
        have hyl : y < (ps.length : Int) := by omega
        have hyn : y.toNat < O.length := by omega
        have w6 : IntKind.i64.wrap (z + 1) = z + 1 := wrap64 (by omega) (by omega)
        have w7 : IntKind.i64.wrap ((j : Int) + 1) = (j : Int) + 1 := wrap64 (by have := hw.le; omega) (by omega)
        simp [hx, hil, hy, hjl, hq, hz, ho, hyk.1, hyl, w5, hll, pCs, intsA, -getElem?_pos]
        refine callP_of (brackets13 p.kind q.kind) (by simp) (by simp) ?_
        simp [hx, hil, hy, hjl, hq, hz, ho, hyk.1, hyl, hyn, w5, w6, w7, hll, pCs, intsA, -getElem?_pos]
        have hkq : kindAt ps y = q.kind := by simp [kindAt, hq]
        have ht : p.kids.take (j + 1) = p.kids.take j ++ [y] := by rw [List.take_add_one, hy]; rfl
        have hK2 : kidsSet ps p.kind (z) (p.kids.take (j + 1)) out = O.set y.toNat (z + if bracketedF p.kind q.kind then 1 else 0) := by rw [ht, kidsSet_snoc, hgo2, hkq]
        refine ⟨fun hb => ⟨j + 1, ?_, by omega, by omega⟩, fun hb => ⟨j + 1, ?_, by omega, by omega⟩⟩
        · simp [hK2, hb, List.map_set]
        · simp [hK2, hb, List.map_set]
      · have hje : j = p.kids.length := by omega
        subst hje
        have hd0 : 0 ≤ out.getD i 0 ∧ out.getD i 0 ≤ 2 * ((ps.length : Int) - (i + 1 : Nat)) := hob _ (by rw [List.getD_eq_getElem?_getD, List.getElem?_eq_getElem (show i < out.length by omega)]; exact List.getElem_mem _)
        have hbd : ∀ y ∈ kidsSet ps p.kind (out.getD i 0 + 0) p.kids out, 0 ≤ y ∧ y ≤ 2 * ((ps.length : Int) - i) := kidsSet_bound ps p.kind _ _ (by omega) (by omega) _ _ fun y hy => by have := hob y hy; omega
        have hkl2 : (kidsSet ps p.kind (out.getD i 0 + 0) p.kids out).length = ps.length := by rw [kidsSet_len, hol]
        have hfin := hgo.trans hnx
        rw [List.take_length]
        generalize kidsSet ps p.kind (out.getD i 0 + 0) p.kids out = O at *
        simp [hx, hil, w4, pCs, intsA, -getElem?_pos]
        exact ⟨i, O, by simp, ⟨by omega, hkl2, fun y hy => hbd y hy, by simpa using hfin⟩, by omega⟩
end Go.Proofs.YtldnkeackphilaaGreatDoor.X
namespace Go.Proofs.YtldnkeackphilaaGreatDoor.X
open Go.RowKit

def valid13F (ps : List Part) : Int × Int := match validF ps with
  | none => (0, 0)
  | some q => q
set_option maxRecDepth 8000 in
theorem valid13 (ps : List Part) (hk : ∀ p ∈ ps, p.kids.length ≤ 35184372088064) (hl : ps.length ≤ 35184372088064) (hkl : shapeF ps = none → ∀ (i : Nat) p, ps[i]? = some p → p.kids.length ≤ 1000) (r : Int × Int) (hr : Hid (r = valid13F ps)) : Has Tryz.prog 24 [.agg [psA ps]] (.tup [iA r.1, iA r.2]) noTok := by
  refine fnX mixed ⟨[0, 1, 2, 3, 4, 5, 6, 7, 14, 22, 29], [1], [], [], []⟩ Tryz.func24 rfl rfl rfl (by kernel_rfl) rfl ?_
  have hR : r = valid13F ps := hr.out
  have h1 := form13 ps hk hl _ (Lib.hid rfl)
  simp only [psA] at h1
  cases hs : shapeF ps with
  | some i =>
    have e : formF ps = (130, i) := by simp [formF, hs]
    rw [e] at h1
    simp [psA]
    refine callP_of h1 (by simp) (by simp) ?_
    simp [hR, valid13F, validF, hs]
  | none =>
    have e : formF ps = (0, 0) := by simp [formF, hs]
    rw [e] at h1
    have hw := wf_of_shape hs
    have h2 := nests13 ps hw (hkl hs) _ (Lib.hid rfl)
    simp only [psA, intsA] at h2
    simp [psA]
    refine callP_of h1 (by simp) (by simp) ?_
    simp
    refine callP_of h2 (by simp) (by simp) ?_
    simp
    have hvd : valid13F ps = match (nestsF ps).findIdx? (fun x => decide (32 < x)) with | none => (0, 0) | some i => (122, (i : Int)) := by
      unfold valid13F validF nestBad
      rw [hs]
      simp only
      cases (nestsF ps).findIdx? (fun x => decide (32 < x)) <;> rfl
    rw [hvd] at hR
    have hnl : (nestsF ps).length ≤ 35184372088064 := by
      have : ∀ (l : List Nat) (A : List Int), (l.foldl (nestStep ps) A).length = A.length := fun l => by
        induction l with
        | nil => intro A; rfl
        | cons i r ih =>
          intro A
          rw [List.foldl_cons, ih]
          unfold nestStep
          split
          · rfl
          · exact kidsSet_len _ _ _ _ _
      unfold nestsF
      rw [this]
      simpa using hl
    generalize nestsF ps = L at *
    refine wF_loop [] [.slot 1 1] [1, 6, 7] (fun i : Nat => St.asc [(1, .ref 1 0), (6, .sl (L.map fun n => [iA n])), (7, iA i)] [(1, .box 30 [.sl (ps.map pCs)])] [(1, true)] false)
      (fun i => i ≤ L.length ∧ L.findIdx? (fun x => decide (32 < x)) = ((L.drop i).findIdx? (fun x => decide (32 < x))).map (i + ·)) (fun i => L.length - i) 0 _ (by simp) (by simp) (by simp) ?_
    rintro i ⟨hi, hgo⟩
    by_cases h : i < L.length
    · have hx : L[i]? = some L[i] := List.getElem?_eq_getElem h
      generalize L[i] = x at *
      have w1 : IntKind.i64.wrap ((i : Int) + 1) = (i : Int) + 1 := wrap64 (by omega) (by omega)
      simp [hx, h, w1, -getElem?_pos]
      refine ⟨fun hb => ?_, fun hb => ⟨i + 1, by simp, ⟨by omega, ?_⟩, by omega⟩⟩
      · rw [findIdx_hit hx (by simpa using hb)] at hgo
        rw [hR, hgo]
        simp
      · rw [hgo, findIdx_skip hx (by simp; omega), Option.map_map]
        congr 1
        funext k
        simp; omega
    · obtain rfl : i = L.length := by omega
      simp
      rw [hR, hgo]
      simp
end Go.Proofs.YtldnkeackphilaaGreatDoor.X
namespace Go.Proofs.YtldnkeackphilaaGreatDoor
open Go.RowKit

set_option maxRecDepth 8000

def headF (a b : LitD) : Bool := a.kind == b.kind && eqT a.term b.term && a.rel == b.rel && a.num == b.num && eqT a.other b.other && a.of_ == b.of_ && a.key.toList == b.key.toList && a.sel == b.sel && a.texts.length == b.texts.length && a.nums.length == b.nums.length
def textEq (a b : LitD) (i : Nat) : Bool := (a.texts.getD i noText).toList == (b.texts.getD i noText).toList
def numEq (a b : LitD) (i : Nat) : Bool := a.nums.getD i 0 == b.nums.getD i 0
def sameLitF (a b : LitD) : Bool := headF a b && (List.range a.texts.length).all (textEq a b) && (List.range a.nums.length).all (numEq a b)
namespace X
set_option maxHeartbeats 1000000 in
theorem sameLit_h (a b : LitD) (ha : a.fits) (hb : b.fits) : Has Tryz.prog 74 [.agg (litCs a), .agg (litCs b)] (bA (sameLitF a b)) noTok := by
  refine fnX mixed ⟨[0, 1, 2, 3, 4, 5, 6, 46, 76, 81, 94, 99, 112], [2, 3], [(2, [2]), (3, [3]), (84, [2]), (89, [3]), (102, [2]), (107, [3])], [], []⟩ Tryz.func74 rfl rfl rfl (by kernel_rfl) rfl ?_
  have ha1 := ha.1
  have ha2 := ha.2
  simp [litCs, strsA, intsA]
  have hfin : headF a b = false → sameLitF a b = false := fun h => by simp [sameLitF, h]
  have hhead : a.kind = b.kind → a.term.kind = b.term.kind → a.term.side = b.term.side → a.term.key.toList = b.term.key.toList → a.term.sel = b.term.sel → a.rel = b.rel → a.num = b.num → a.other.kind = b.other.kind → a.other.side = b.other.side → a.other.key.toList = b.other.key.toList → a.other.sel = b.other.sel → a.of_ = b.of_ → a.key.toList = b.key.toList → a.sel = b.sel → (a.texts.length : Int) = b.texts.length → (a.nums.length : Int) = b.nums.length → headF a b = true := by
    intro p1 p2 p3 p4 p5 p6 p7 p8 p9 p10 p11 p12 q1 q2 q3 q4
    have q3' : a.texts.length = b.texts.length := by omega
    have q4' : a.nums.length = b.nums.length := by omega
    simp [headF, eqT, p1, p2, p3, p4, p5, p6, p7, p8, p9, p10, p11, p12, q1, q2, q3', q4']
  refine ⟨fun h => hfin ?_, fun p1 p2 p3 p4 p5 p6 p7 p8 p9 p10 p11 p12 => ⟨fun h => hfin ?_, fun q1 q2 q3 q4 => ?_⟩⟩
  · simp only [headF, eqT]
    grind
  · simp only [headF, eqT]
    grind
  have hh := hhead p1 p2 p3 p4 p5 p6 p7 p8 p9 p10 p11 p12 q1 q2 q3 q4
  clear p1 p2 p3 p4 p5 p6 p7 p8 p9 p10 p11 p12 q1 q2 hhead hfin
  refine wF_loop [] [.slot 2 2, .slot 3 3] [0, 1, 2, 3, 4, 5] (fun i : Nat => St.asc [(0, .agg (litCs a)), (1, .agg (litCs b)), (2, .ref 2 0), (3, .ref 3 0), (4, bA false), (5, iA i)] [(2, .box 61 (litCs a)), (3, .box 61 (litCs b))] [(2, true), (3, true)] false) (fun i => i ≤ a.texts.length ∧ Upto (textEq a b) i) (fun i => a.texts.length - i) 0 _ (by simp) (by simp [litCs, strsA, intsA]) (by simp [Upto.zero]) ?_
  rintro i ⟨hi, hok⟩
  by_cases h : i < a.texts.length
  · have hx : a.texts[i]? = some a.texts[i] := List.getElem?_eq_getElem h
    obtain ⟨y, hy⟩ := ex_at (l := b.texts) (i := i) (by omega)
    generalize a.texts[i] = x at *
    have ht : textEq a b i = (x.toList == y.toList) := by simp [textEq, hx, hy]
    simp [litCs, strsA, intsA, hx, hy, h, wrapN (Nat.le_trans hi ha1), -getElem?_pos]
    refine ⟨by omega, fun hne => ?_, fun he => ⟨i + 1, by simp, ⟨by omega, hok.next (by rw [ht]; simpa using he)⟩, by omega⟩⟩
    simp [sameLitF, all_false (f := textEq a b) h (by rw [ht]; simpa using hne)]
  · have : i = a.texts.length := by omega
    subst this
    have hok1 : (List.range a.texts.length).all (textEq a b) = true := hok
    simp [litCs, strsA, intsA, -getElem?_pos]
    refine wF_loop [] [.slot 2 2, .slot 3 3] [0, 1, 2, 3, 4, 6] (fun i : Nat => St.asc [(0, .agg (litCs a)), (1, .agg (litCs b)), (2, .ref 2 0), (3, .ref 3 0), (4, bA false), (6, iA i)] [(2, .box 61 (litCs a)), (3, .box 61 (litCs b))] [(2, true), (3, true)] false) (fun i => i ≤ a.nums.length ∧ Upto (numEq a b) i) (fun i => a.nums.length - i) 0 _ (by simp) (by simp [litCs, strsA, intsA]) (by simp [Upto.zero]) ?_
    rintro i ⟨hi, hok⟩
    by_cases h : i < a.nums.length
    · have hx : a.nums[i]? = some a.nums[i] := List.getElem?_eq_getElem h
      obtain ⟨y, hy⟩ := ex_at (l := b.nums) (i := i) (by omega)
      generalize a.nums[i] = x at *
      have ht : numEq a b i = (x == y) := by simp [numEq, hx, hy]
      simp [litCs, strsA, intsA, hx, hy, h, wrapN (Nat.le_trans hi ha2), -getElem?_pos]
      refine ⟨by omega, fun hne => ?_, fun he => ⟨i + 1, by simp, ⟨by omega, hok.next (by rw [ht]; simpa using he)⟩, by omega⟩⟩
      simp [sameLitF, all_false (f := numEq a b) h (by rw [ht]; simpa using hne)]
    · have : i = a.nums.length := by omega
      subst this
      have hok2 : (List.range a.nums.length).all (numEq a b) = true := hok
      simp [litCs, strsA, intsA, -getElem?_pos]
      simp only [sameLitF, hh, hok1, hok2, Bool.and_true]
end X
end Go.Proofs.YtldnkeackphilaaGreatDoor
