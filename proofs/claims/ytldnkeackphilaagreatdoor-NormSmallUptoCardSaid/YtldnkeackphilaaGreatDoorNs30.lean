/- norm.Plan where layers 13 and 14 refuse the tree. -/
import Derived.Test.YtldnkeackphilaaGreatDoorNs29
import Derived.Test.YtldnkeackphilaaGreatDoorNs26
import Derived.Test.YtldnkeackphilaaGreatDoorNs19
import Derived.Test.YtldnkeackphilaaGreatDoorRows
import Derived.HandedShaped
import Derived.Shelf.Vars
import Derived.ProofKit
import Derived.OpenShut
import Derived.LaidMore
import Derived.LaidHandle
import Derived.Lay
import Derived.Carry
import Derived.Stop.Joined
import Derived.Test.YtldnkeackphilaaGreatDoorNs28
import Derived.Deep.DeepHandedRow
import Derived.Test.YtldnkeackphilaaGreatDoorKg
import Derived.Test.YtldnkeackphilaaGreatDoorCards
import Derived.Test.YtldnkeackphilaaGreatDoorTie
import Derived.SevenTiedAt
import Derived.JoinedCond
set_option linter.unusedSimpArgs false
set_option linter.unusedVariables false
namespace Go.Proofs.YtldnkeackphilaaGreatDoor.X
open Go.RowKit

def faultA (c pl : Int) : AV := .ifc 114 (.ptr [iA c, iA pl, sA noText, .imm .nilIface])
theorem as_h (c pl : Int) (a0 : AV) : Hs Tryz.prog 43 [faultA c pl, .ifc 116 (.ref 1000 0)] [(1000, .box 114 [a0])] (bA true) [1000] [(1000, .box 114 [.ptr [iA c, iA pl, sA noText, .imm .nilIface]])] := by
  refine ⟨fun vals w => enters_of Tryz.func43 rfl rfl vals w, fun G ν w vals hc hB hinj hno hl hv => ?_⟩
  obtain ⟨l⟩ := vals
  match l, hl with
  | [v0, v1], _ =>
    obtain ⟨u0, rfl, hu0⟩ := (hv 0 v0 _ rfl rfl).ifcI
    obtain ⟨u1, rfl, hu1⟩ := (hv 1 v1 _ rfl rfl).ifcI
    obtain ⟨g, o, rfl, hcell⟩ := hu0.ptrI
    obtain ⟨g1, cap, sz, hn, rfl⟩ := hu1.refI
    obtain ⟨g2, cap2, sz2, hn2, hG, vs, hh, hsz, hvs⟩ := hB _ (List.mem_singleton.2 rfl)
    rw [hn] at hn2
    cases hn2
    have hlt : g1 < w.heap.size := (Array.getElem?_eq_some_iff.1 hh).1
    obtain ⟨l⟩ := vs
    match l, hsz with
    | [old], _ =>
      refine (as_hit ⟨g, o, none⟩ ⟨g1, 0, none⟩ old w (glob_of hc).et (cell_of_row _ _ 0 _ _ _ hh) (by unfold World.frozen?; rw [hh]; simp)).mono ?_
      rintro e w' ⟨rfl, rfl⟩
      have hblk : ∀ k, k < w.heap.size → k ≠ g1 → (((((w.alloc (.cells #[.pointer (some ⟨g1, 0, none⟩)] 116)).alloc (.cells #[.pointer (some ⟨4, 116, none⟩), .pointer (some ⟨w.heap.size, 0, none⟩), .int .u64 150] 183)).alloc (.cells #[.pointer (some ⟨4, 116, none⟩), .pointer (some ⟨w.heap.size, 0, none⟩), .int .u64 150] 183)).alloc (.cells #[.pointer (some ⟨g, o, none⟩)] 114)).setCell ⟨g1, 0, none⟩ (.pointer (some ⟨g, o, none⟩))).heap[k]? = w.heap[k]? := fun k hk hne => by
        rw [Below.heap_setCell _ _ _ _ (by exact fun e => hne e)]
        rw [Below.heap_alloc _ _ _ (by simp; omega), Below.heap_alloc _ _ _ (by simp; omega), Below.heap_alloc _ _ _ (by simp; omega), Below.heap_alloc _ _ _ hk]
      have hcells : CellsR G _ := cells_old hc fun k ⟨i, a, hg⟩ => hblk k (ghost_lt hc hg) fun e => hG i a (e ▸ hg)
      refine ⟨_, G, ν, rfl, hcells, .sh (.imm _ rfl), fun p hp => (List.mem_singleton.1 hp) ▸ ⟨g1, cap, sz, hn, hG, #[.pointer (some ⟨g, o, none⟩)], ?_, rfl, fun j v a h1 h2 => ?_⟩, fun p hp q hq _ _ _ => by rw [List.mem_singleton.1 hp, List.mem_singleton.1 hq], fun n _ => rfl, fun p hp k hk => .inr ⟨_, List.mem_singleton.2 rfl, by rw [List.mem_singleton.1 hp] at hk; exact hk⟩, ⟨rfl, rfl, rfl, by simp [World.setCell]; omega, .refl _, fun k hk hF => ⟨hblk k hk fun e => hF ⟨_, List.mem_singleton.2 rfl, by simp [blkOf, hn, e]⟩, rfl⟩⟩⟩
      · exact blk_set (heap_al (heap_al (heap_al (heap_al hh)))) 0 _
      · match j with
        | 0 => cases h1; cases h2; exact ⟨rfl, .sh (.ptr g o _ hcell)⟩
        | j + 1 => simp at h1
set_option maxRecDepth 8000
theorem code_h (c pl : Int) : Has Tryz.prog 37 [faultA c pl] (iA c) noTok := by
  refine fnX mixed ⟨[0, 2, 3, 4, 5, 9, 18], [3], [], [], []⟩ Tryz.func37 rfl rfl rfl (by kernel_rfl) rfl ?_
  have h := as_h c pl (.imm (.pointer none))
  simp only [faultA] at h
  simp [faultA]
  refine callH_of [(1000, 3)] [] h (by simp) (by simp) (by simp) ?_
  simp

theorem fault_ghost {G : Gh} {w w' : World} (hc : CellsR G w) (hB : Below w.heap.size w w') {b : Nat} (hb : w.heap.size ≤ b) {c pl : Int} (hh : w'.heap[b]? = some (.cells #[.int .i64 c, .int .i64 pl, .string ⟨#[]⟩, .nilIface] 118)) :
    ∃ G', CellsR G' w' ∧ Gle G G' ∧ (∀ g, g < w.heap.size → G' g = G g) ∧ RS G' (.iface 114 (.pointer (some ⟨b, 0, none⟩))) (faultA c pl) := by
  have hle := gset_le G b fun j => ([iA c, iA pl, sA noText, .imm .nilIface] : List AV)[j]?
  have hc' := cells_below hc hB
  refine ⟨gset G b fun j => ([iA c, iA pl, sA noText, .imm .nilIface] : List AV)[j]?, ⟨fun g0 i a hga => ?_, hc'.gl.mono hle⟩, hle, fun g0 hg0 => gset_ne _ _ (by omega), .ifc _ _ _ (.ptr b 0 _ fun j a ha => .inr ⟨rfl, by simpa using ha⟩)⟩
  rcases hga with hga | ⟨rfl, hga⟩
  · obtain ⟨v, k1, k2, k3⟩ := hc'.get _ _ _ hga
    exact ⟨v, k1, k2, k3.mono hle⟩
  · have cell : ∀ (j : Nat) (v : Value), (#[Value.int .i64 c, .int .i64 pl, .string ⟨#[]⟩, .nilIface] : Array Value)[j]? = some v → w'.cell? ⟨g0, j, none⟩ = some v := fun j v hv => by
      simp [World.cell?, hh, hv]
    match i with
    | 0 => cases hga; exact ⟨_, cell 0 _ rfl, rfl, .imm _ rfl⟩
    | 1 => cases hga; exact ⟨_, cell 1 _ rfl, rfl, .imm _ rfl⟩
    | 2 => cases hga; exact ⟨_, cell 2 _ rfl, rfl, .imm _ rfl⟩
    | 3 => cases hga; exact ⟨_, cell 3 _ rfl, rfl, .imm _ rfl⟩
    | i + 4 => simp at hga
theorem valid_bad (ps : List Part) (hb : PB ps) (c pl : Int) (hv : validF ps = some (c, pl)) : Has Tryz.prog 19 [.agg [psA ps]] (faultA c pl) noTok := by
  refine has_more Tryz.func19 rfl rfl rfl fun G w vals hc hl hr => ?_
  obtain ⟨l⟩ := vals
  match l, hl with
  | [v], _ =>
    have h0 := hr 0 v (.agg [psA ps]) rfl rfl
    cases h0 with
    | agg vs _ hl1 h1 h2 =>
      obtain ⟨l⟩ := vs
      match l, hl1 with
      | [pv], _ =>
        have hp := parts_of hc (h2 0 pv _ rfl rfl) hb
        refine (valid_c ps pv w hp).mono ?_
        rintro e w' ⟨v, rfl, hv'⟩
        rw [hv] at hv'
        obtain ⟨hB, b, rfl, hbw, hh⟩ := hv'
        obtain ⟨G', k1, k2, k3, k4⟩ := fault_ghost hc hB hbw hh
        exact ⟨_, G', rfl, hB, k1, k2, k3, k4⟩
theorem check_bad (ps : List Part) (scope : Int) (hsc : R64 scope) (hb : PB ps) (c pl : Int) (hv : checkF ps scope = .inl (c, pl, none)) : Has Tryz.prog 20 [.agg [psA ps], iA scope] (.tup [.sl [], faultA c pl]) noTok := by
  refine has_more Tryz.func20 rfl rfl rfl fun G w vals hc hl hr => ?_
  obtain ⟨l⟩ := vals
  match l, hl with
  | [v, sc], _ =>
    have h0 := hr 0 v (.agg [psA ps]) rfl rfl
    have hs := hr 1 sc (iA scope) rfl rfl
    cases hs
    cases h0 with
    | agg vs _ hl1 h1 h2 =>
      obtain ⟨l⟩ := vs
      match l, hl1 with
      | [pv], _ =>
        have hp := parts_of hc (h2 0 pv _ rfl rfl) hb
        refine (check_c ps pv scope w hp (glob_of hc) hsc).mono ?_
        rintro e w' ⟨tv, ev, rfl, hv'⟩
        rw [hv] at hv'
        obtain ⟨hB, rfl, b, hbw, rfl, hh⟩ := hv'
        obtain ⟨G', k1, k2, k3, k4⟩ := fault_ghost hc hB hbw hh
        refine ⟨_, G', rfl, hB, k1, k2, k3, .tup _ _ rfl fun j v a h1 h2 => ?_⟩
        match j with
        | 0 => cases h1; cases h2; exact .nil
        | 1 => cases h1; cases h2; exact k4
        | j + 2 => simp at h1
theorem plan_bad1 (ps : List Part) (scope : Int) (hb : PB ps) (c pl : Int) (hv : validF ps = some (c, pl)) : Has Tryz.prog 13 [.agg [psA ps], iA scope] (.tup [.agg [.sl [], .sl []], iA c]) noTok := by
  refine fnX mixed ⟨[0, 1, 2, 4, 5, 6, 8, 9, 10, 11, 12, 16, 27], [2, 4, 34, 42, 45, 10045], [], [(11, [45, 10045])], []⟩ Tryz.func13 rfl rfl rfl (by kernel_rfl) rfl ?_
  have h1 := valid_bad ps hb c pl hv
  have h2 := code_h c pl
  simp only [faultA, psA] at h1 h2
  simp [psA]
  refine callP_of h1 (by simp) (by simp) ?_
  simp
  refine callP_of h2 (by simp) (by simp) ?_
  simp
theorem plan_bad2 (ps : List Part) (scope : Int) (hsc : R64 scope) (hb : PB ps) (hv : validF ps = none) (c pl : Int) (hk : checkF ps scope = .inl (c, pl, none)) : Has Tryz.prog 13 [.agg [psA ps], iA scope] (.tup [.agg [.sl [], .sl []], iA c]) noTok := by
  refine fnX mixed ⟨[0, 1, 2, 4, 5, 6, 8, 9, 10, 11, 12, 16, 27], [2, 4, 34, 42, 45, 10045], [], [(11, [45, 10045])], []⟩ Tryz.func13 rfl rfl rfl (by kernel_rfl) rfl ?_
  have h1 := check_bad ps scope hsc hb c pl hk
  have h2 := code_h c pl
  have h3 := valid_ok ps hb hv
  simp only [faultA, psA] at h1 h2 h3
  simp [psA]
  refine callP_of h3 (by simp) (by simp) ?_
  simp
  refine callP_of h1 (by simp) (by simp) ?_
  simp
  refine callP_of h2 (by simp) (by simp) ?_
  simp
def codeF (ps : List Part) (scope : Int) : Int := match validF ps with
  | some q => q.1
  | none => match checkF ps scope with
    | .inl q => q.1
    | .inr _ => 0
def planX (ps : List Part) (scope : Int) : List PartD × List (List PartD) := match checkF ps scope with
  | .inl _ => ([], [])
  | .inr _ => planF ps
theorem check_cause {ps : List Part} {scope c pl : Int} {k : Option Int} (hv : validF ps = none) (h : checkF ps scope = .inl (c, pl, k)) : k = none := by
  unfold checkF at h
  split at h
  · cases h; rfl
  · rw [hv] at h
    simp only at h
    split at h
    · cases h; rfl
    · split at h
      · cases h; rfl
      · cases h
theorem check_valid {ps : List Part} {scope : Int} {q : Int × Int} (hv : validF ps = some q) : ∃ r, checkF ps scope = .inl r := by
  unfold checkF
  split
  · exact ⟨_, rfl⟩
  · obtain ⟨c, pl⟩ := q
    rw [hv]
    exact ⟨_, rfl⟩
theorem plan_h (ps : List Part) (scope : Int) (hsc : R64 scope) (hb : PB ps) : Has Tryz.prog 13 [.agg [psA ps], iA scope] (.tup [.agg [partsA (planX ps scope).1, selsA (planX ps scope).2], iA (codeF ps scope)]) noTok := by
  rcases hv : validF ps with _ | ⟨c, pl⟩
  · rcases hk : checkF ps scope with ⟨c, pl, k⟩ | ts
    · obtain rfl := check_cause hv hk
      have := plan_bad2 ps scope hsc hb hv c pl hk
      simpa [codeF, planX, hv, hk, partsA, selsA] using this
    · have := plan_good ps scope hsc hb ts hk
      simpa [codeF, planX, hv, hk] using this
  · obtain ⟨r, hr⟩ := check_valid (scope := scope) hv
    have := plan_bad1 ps scope hb c pl hv
    simpa [codeF, planX, hv, hr, partsA, selsA] using this
end Go.Proofs.YtldnkeackphilaaGreatDoor.X
/- berthref13.Large. -/
namespace Go.Proofs.YtldnkeackphilaaGreatDoor
open Go.RowKit

def partC (p : Part) : List AV := [iA p.kind, sA p.text, iA p.num, intsA p.kids]
def treeC (ps : List Part) : List AV := [.sl (ps.map partC)]
structure FitsT (ps : List Part) : Prop where
  len : ps.length ≤ 4398046511104
  each : ∀ p ∈ ps, p.kids.length ≤ 35184372088064
def largeGo : List Part → Nat → Nat
  | [], n => n
  | p :: l, n => if n ≤ 100000 then largeGo l (n + p.kids.length) else n
def largeF (ps : List Part) : Bool := decide (largeGo ps ps.length > 100000)
set_option maxRecDepth 8000 in
theorem large_h (ps : List Part) (hp : FitsT ps) : Has Tryz.prog 26 [.agg (treeC ps)] (bA (largeF ps)) noTok := by
  refine fnT Tryz.mixed [0, 1, 2, 3, 4, 16] [] [] Tryz.func26 rfl rfl rfl (by kernel_rfl) rfl ?_
  simp [treeC]
  refine wF_loop [0, 1, 2, 3, 4] (fun x : Nat × Nat => St.asc [(0, .agg (treeC ps), [none, none]), (1, .box 30 (treeC ps), [none, none]), (2, bA false, []), (3, iA x.2, []), (4, iA x.1, [])]) (fun x => x.1 ≤ ps.length ∧ x.2 ≤ 4398046511104 + 35184372188064 ∧ largeGo (ps.drop x.1) x.2 = largeGo ps ps.length) (fun x => ps.length - x.1) (0, ps.length) _ (by simp [treeC]) (by have := hp.len; simp; omega) ?_
  rintro ⟨i, n⟩ ⟨hi, hn, hm⟩
  have hlen := hp.len
  simp only at hi hn hm
  by_cases h : i < ps.length
  · have hx : ps[i]? = some ps[i] := List.getElem?_eq_getElem h
    have hk := hp.each ps[i] (List.getElem_mem h)
    rw [drop_at hx, largeGo] at hm
    generalize ps[i] = x at *
    have h1 : IntKind.i64.wrap ((i : Int) + 1) = (i : Int) + 1 := wrap64 (by omega) (by omega)
    have h2 : IntKind.i64.wrap ((n : Int) + x.kids.length) = (n : Int) + x.kids.length := wrap64 (by omega) (by omega)
    simp [treeC, partC, intsA, hx, h, h1, h2, -getElem?_pos]
    refine ⟨fun hn' => ⟨i + 1, n + x.kids.length, by simp [treeC, partC, intsA], ⟨by omega, by omega, ?_⟩, by omega⟩, fun hb => ?_⟩
    · rw [if_pos (by omega)] at hm
      exact hm
    · rw [if_neg (by omega)] at hm
      simp only [largeF, ← hm]
      rw [decide_eq_decide]
      omega
  · have : i = ps.length := by omega
    subst this
    rw [List.drop_length] at hm
    simp only [largeGo] at hm
    simp [treeC]
    simp only [largeF, ← hm]
    rw [decide_eq_decide]
    omega
end Go.Proofs.YtldnkeackphilaaGreatDoor
/- berthref13.Copy. -/
namespace Go.Proofs.YtldnkeackphilaaGreatDoor
open Go.RowKit

theorem largeGo_ge : ∀ (l : List Part) (n : Nat), n ≤ largeGo l n
  | [], n => Nat.le_refl n
  | p :: l, n => by
    rw [largeGo]
    split
    · exact Nat.le_trans (Nat.le_add_right _ _) (largeGo_ge l _)
    · exact Nat.le_refl n
theorem largeGo_kids : ∀ (l : List Part) (n : Nat), largeGo l n ≤ 100000 → ∀ p ∈ l, p.kids.length ≤ 100000
  | [], _, _, p, hp => by cases hp
  | q :: l, n, h, p, hp => by
    rw [largeGo] at h
    split at h
    · rcases List.mem_cons.1 hp with rfl | hp
      · have := largeGo_ge l (n + p.kids.length); omega
      · exact largeGo_kids l _ h p hp
    · omega
set_option maxRecDepth 8000 in
set_option maxHeartbeats 1000000 in
theorem copy_h (ps : List Part) (hp : FitsT ps) : Has Tryz.prog 14 [.agg (treeC ps)] (.agg (treeC ps)) noTok := by
  refine fnT Tryz.mixed [0, 1, 2, 3, 4, 5, 6, 9, 15] [28] [] Tryz.func14 rfl rfl rfl (by kernel_rfl) rfl ?_
  simp [treeC]
  refine callW_of (large_h ps hp) ?_
  simp
  intro hL
  have hL' : largeGo ps ps.length ≤ 100000 := by simpa [largeF] using hL
  have hlen : ps.length ≤ 100000 := Nat.le_trans (largeGo_ge ps ps.length) hL'
  refine wF_loop [0, 1, 2, 4, 5] (fun x : Nat × Option (Option TypeId) => St.asc [(0, .agg (treeC ps), [none, none]), (1, .box 30 (treeC ps), [none, none]), (2, .box 30 [.sl []], [none, some none]), (4, .sl ((ps.take x.1).map partC), [x.2]), (5, iA x.1, [])]) (fun x => x.1 ≤ ps.length ∧ (x.2 = some none ∨ x.2 = some (some 66))) (fun x => ps.length - x.1) (0, some none) _ (by simp [treeC]) (by simp) ?_
  rintro ⟨i, tk⟩ ⟨hi, htk⟩
  simp only at hi htk
  by_cases h : i < ps.length
  · have hx : ps[i]? = some ps[i] := List.getElem?_eq_getElem h
    have hk := largeGo_kids ps _ hL' ps[i] (List.getElem_mem h)
    generalize ps[i] = x at *
    have h1 : IntKind.i64.wrap ((i : Int) + 1) = (i : Int) + 1 := wrap64 (by omega) (by omega)
    have hmem : ∀ e ∈ List.take i (List.map partC ps), e.length = 4 := fun e he => by
      obtain ⟨q, -, rfl⟩ := List.mem_map.1 (List.mem_of_mem_take he)
      rfl
    have htake : List.take (i + 1) (List.map partC ps) = List.take i (List.map partC ps) ++ [partC x] := by
      rw [List.take_add_one, List.getElem?_map, hx]
      rfl
    rcases htk with rfl | rfl
    · simp [treeC, partC, intsA, hx, h, h1, -getElem?_pos]
      exact ⟨by omega, by omega, hmem, by omega, by omega, i + 1, some (some 66), by rw [htake]; rfl, ⟨by omega, .inr rfl⟩, by omega⟩
    · simp [treeC, partC, intsA, hx, h, h1, -getElem?_pos]
      exact ⟨by omega, by omega, hmem, by omega, by omega, i + 1, some (some 66), by rw [htake]; rfl, ⟨by omega, .inr rfl⟩, by omega⟩
  · have : i = ps.length := by omega
    subst this
    simp [treeC]
end Go.Proofs.YtldnkeackphilaaGreatDoor
/- berthlaw16.NormSmall. -/
namespace Go.Proofs.YtldnkeackphilaaGreatDoor.X
open Go.RowKit

theorem sides_code {kind num f g : Int} {mv : Bool} {i a b : Int} {q : Int × Int} (h : sidesG kind num f g mv i a b = some q) : q.1 ≠ 0 := by
  unfold sidesG at h
  by_cases h1 : f ≠ 2 ∧ f ≠ 3
  · rw [if_pos h1] at h; cases h; simp
  · rw [if_neg h1] at h
    by_cases h2 : (if kind = 7 then g = 6 ∨ (g = 4 ∧ f = 2) ∨ (g = 5 ∧ f = 3) else g = f)
    · rw [if_neg (fun hn => hn h2)] at h
      by_cases h3 : kind = 6 ∧ f = 2 ∧ 2 < num
      · rw [if_pos h3] at h; cases h; simp
      · rw [if_neg h3] at h
        cases mv
        · cases h
        · cases h; simp
    · rw [if_pos h2] at h; cases h; simp
theorem code_pos {ps : List Part} {sc : List Int} : ∀ (l : List Part) (i : Nat) (ts0 : List (Int × Int)) (q : Int × Int), typesGo ps sc l i ts0 = .inl q → q.1 ≠ 0
  | [], _, _, _, h => by simp [typesGo] at h
  | p :: r, i, ts0, q, h => by
    rw [typesGo] at h
    split at h
    · next f hf =>
      cases h
      have orE : ∀ {g : Option (Int × Int)} {u : Int × Int}, orElse g u = .inl q → g = some q := fun {g u} h => by
        unfold orElse at h
        split at h
        · cases h; rfl
        · cases h
      have hb : ∀ (ts : List (Int × Int)) (kids : List Int), boolsF ts kids = some q → q.1 ≠ 0 := fun ts kids h => by
        unfold boolsF at h
        obtain ⟨k, -, rfl⟩ := Option.map_eq_some_iff.1 h
        simp
      have hsel : selectorF sc ts0 i p = some q → q.1 ≠ 0 := fun h => by
        unfold selectorF at h
        split at h
        · cases h; simp
        · split at h
          · cases h; simp
          · exact hb _ _ h
      unfold typeF at hf
      split at hf
      · cases hf
      split at hf
      · exact hb _ _ (orE hf)
      split at hf
      · have := orE hf
        exact sides_code this
      split at hf
      · exact hsel (orE hf)
      split at hf
      · exact hsel (orE hf)
      split at hf
      · cases hf
      split at hf
      · cases hf
      split at hf
      · unfold setF at hf
        split at hf
        · cases hf
        · split at hf
          · cases hf; simp
          · split at hf <;> cases hf
      split at hf
      · split at hf
        · cases hf; simp
        · cases hf
      · unfold speaksF at hf
        repeat' split at hf
        all_goals first
          | (cases hf; done)
          | (injection hf with hf; subst hf; simp)
    · exact code_pos r (i + 1) _ q h
theorem codes {ps : List Part} {scope : Int} : (codeF ps scope ≠ 0 → planX ps scope = ([], [])) ∧ (codeF ps scope = 0 → ∃ ts, checkF ps scope = .inr ts ∧ planX ps scope = planF ps) := by
  rcases hv : validF ps with _ | ⟨c, pl⟩
  · rcases hk : checkF ps scope with ⟨c, pl, k⟩ | ts
    · refine ⟨fun _ => by simp [planX, hk], fun h => ?_⟩
      exfalso
      have hc : c = 0 := by simpa [codeF, hv, hk] using h
      subst hc
      unfold checkF at hk
      split at hk
      · simp at hk
      · rw [hv] at hk
        simp only at hk
        split at hk
        · next q1 q2 hq =>
          have := code_pos _ _ _ _ hq
          simp only [Sum.inl.injEq, Prod.mk.injEq] at hk
          exact this hk.1
        · split at hk
          · simp at hk
          · cases hk
    · exact ⟨fun h => absurd (by simp [codeF, hv, hk]) h, fun _ => ⟨ts, rfl, by simp [planX, hk]⟩⟩
  · obtain ⟨r, hr⟩ := check_valid (scope := scope) hv
    refine ⟨fun _ => by simp [planX, hr], fun h => ?_⟩
    exfalso
    have hc : c = 0 := by simpa [codeF, hv] using h
    unfold validF at hv
    split at hv
    · cases hv; cases hc
    · obtain ⟨k, -, h⟩ := Option.map_eq_some_iff.1 hv
      cases h; cases hc
theorem copy_x (ps : List Part) (hb : PB ps) : Has Tryz.prog 14 [.agg [psA ps]] (.agg [psA ps]) noTok := copy_h ps ⟨by have := hb.len; omega, fun p hp => (hb.part p hp).2.2.2.1⟩
set_option maxRecDepth 8000
set_option maxHeartbeats 1000000 in
theorem small_bad (ps : List Part) (scope : Int) (hsc : R64 scope) (hb : PB ps) (h0 : codeF ps scope ≠ 0) : Has Tryz.prog 6 [.agg [psA ps], iA scope] (bA true) noTok := by
  refine fnX mixed ⟨[0, 1, 2, 4, 5, 6, 7, 8, 9, 10, 11, 12, 14, 24, 42, 59, 64, 79, 80], [2, 5], [], [], []⟩ Tryz.func6 rfl rfl rfl (by kernel_rfl) rfl ?_
  have h1 := copy_x ps hb
  have h2 := plan_h ps scope hsc hb
  rw [codes.1 h0] at h2
  simp only [psA, partsA, selsA, List.map_nil] at h1 h2
  generalize codeF ps scope = e at *
  simp [psA]
  refine callP_of awake_h (by simp) (by simp) ?_
  simp
  refine callP_of h1 (by simp) (by simp) ?_
  simp
  refine callP_of h2 (by simp) (by simp) ?_
  simp
  refine callP_of (num_h e) (by simp) (by simp) ?_
  simp [h0]
theorem scan_step {l : List PartD} {k j m : Nat} {x : PartD} (h : scanF l 0 = some k) (hm : scanF (l.take j) 0 = some m) (hx : l[j]? = some x) : (nextF x.lit m).2 = true ∧ scanF (l.take (j + 1)) 0 = some (if (nextF x.lit m).1 then m + 1 else m) := by
  have hl : l = l.take j ++ x :: l.drop (j + 1) := by rw [← drop_at hx, List.take_append_drop]
  rw [hl, scan_app, hm, Option.bind_some, scanF] at h
  have h2 : (nextF x.lit m).2 = true := by
    by_cases h2 : (nextF x.lit m).2 = true
    · exact h2
    · rw [if_neg h2] at h; cases h
  refine ⟨h2, ?_⟩
  have ht : l.take (j + 1) = l.take j ++ [x] := by rw [List.take_add_one, hx]; rfl
  rw [ht, scan_app, hm, Option.bind_some, scanF, if_pos h2]
  rfl
set_option maxHeartbeats 2000000 in
theorem small_good (ps : List Part) (scope : Int) (hsc : R64 scope) (hb : PB ps) (ts : List (Int × Int)) (hts : checkF ps scope = .inr ts) : Has Tryz.prog 6 [.agg [psA ps], iA scope] (bA true) noTok := by
  refine fnX mixed ⟨[0, 1, 2, 4, 5, 6, 7, 8, 9, 10, 11, 12, 14, 24, 42, 59, 64, 79, 80], [2, 5], [], [], []⟩ Tryz.func6 rfl rfl rfl (by kernel_rfl) rfl ?_
  have h1 := copy_x ps hb
  have h2 := plan_good ps scope hsc hb ts hts
  obtain ⟨k1, k2, k3, k4, k5, k6⟩ := plan_small hts
  have hle := (tt_of hts).wf.le
  generalize planF ps = q at *
  obtain ⟨main, sels⟩ := q
  simp only at k1 k2 k3 k4 k5 k6
  have hS := sized_h main k6.main (by have := wtL_sum main; omega)
  have hA := alone_h main k6.main
  simp only [psA, partsA, selsA] at h1 h2 hS hA
  simp [psA]
  refine callP_of awake_h (by simp) (by simp) ?_
  simp
  refine callP_of h1 (by simp) (by simp) ?_
  simp
  refine callP_of h2 (by simp) (by simp) ?_
  simp
  refine callP_of (num_h 0) (by simp) (by simp) ?_
  simp
  refine callP_of hS (by simp) (by simp) ?_
  simp
  have hlen : sels.length ≤ 35184372088064 := k6.len
  have hml : main.length ≤ 4398046511104 := k6.main.len
  refine wF_loop [] [.slot 2 2, .slot 5 5] [2, 5, 7, 8, 9] (fun y : Nat × Nat => St.asc [(2, .ref 2 0), (5, .ref 5 0), (7, iA (wtL main + y.2)), (8, iA 0), (9, iA y.1)] [(2, .box 30 [.sl (ps.map pCs)]), (5, .box 25 [.sl (main.map partCs), .sl (sels.map fun x => [.sl (x.map partCs)])])] [(2, true), (5, true)] false)
    (fun y => y.1 ≤ sels.length ∧ y.2 + ((sels.drop y.1).map wtL).sum = (sels.map wtL).sum) (fun y => sels.length - y.1) (0, 0) _ (by simp) (by simp) (by simp) ?_
  rintro ⟨i, n⟩ ⟨hi, hn⟩
  simp only at hi hn
  by_cases h : i < sels.length
  · have hx : sels[i]? = some sels[i] := List.getElem?_eq_getElem h
    have hf := k6.each sels[i] (List.getElem_mem h)
    have ha := k3 sels[i] (List.getElem_mem h)
    rw [drop_at hx, List.map_cons, List.sum_cons] at hn
    generalize sels[i] = x at *
    have hSx := sized_h x hf (by have := wtL_sum x; omega)
    have hAx := alone_h x hf
    rw [ha] at hAx
    simp only [partsA] at hSx hAx
    have w1 : IntKind.i64.wrap ((i : Int) + 1) = (i : Int) + 1 := wrap64 (by omega) (by omega)
    have w2 : IntKind.i64.wrap ((wtL main : Int) + n + wtL x) = (wtL main : Int) + (n + wtL x : Nat) := by
      rw [wrap64 (by omega) (by omega)]
      omega
    simp [hx, h, w1, -getElem?_pos]
    refine callP_of hSx (by simp) (by simp) ?_
    simp [hx, h, -getElem?_pos]
    refine callP_of hAx (by simp) (by simp) ?_
    simp only [w2]
    simp [w1]
    refine ⟨i + 1, n + wtL x, by simp, ⟨by omega, ?_⟩, by omega⟩
    rw [← List.map_drop]
    omega
  · obtain rfl : i = sels.length := by omega
    have hn2 : n = (sels.map wtL).sum := by simpa using hn
    subst hn2
    simp
    refine wF_loop [] [.slot 2 2, .slot 5 5] [2, 5, 7, 8, 10] (fun y : Nat × Nat => St.asc [(2, .ref 2 0), (5, .ref 5 0), (7, iA (wtL main + (sels.map wtL).sum)), (8, iA y.2), (10, iA y.1)] [(2, .box 30 [.sl (ps.map pCs)]), (5, .box 25 [.sl (main.map partCs), .sl (sels.map fun x => [.sl (x.map partCs)])])] [(2, true), (5, true)] false)
      (fun y => y.1 ≤ main.length ∧ y.2 ≤ y.1 ∧ scanF (main.take y.1) 0 = some y.2) (fun y => main.length - y.1) (0, 0) _ (by simp) (by simp) (by simp [scanF]) ?_
    rintro ⟨j, m⟩ ⟨hj, hmj, hm⟩
    simp only at hj hmj hm
    by_cases h : j < main.length
    · have hx : main[j]? = some main[j] := List.getElem?_eq_getElem h
      generalize main[j] = x at *
      obtain ⟨s1, s2⟩ := scan_step k4 hm hx
      have hN := next_h x.lit m
      rw [s1] at hN
      have w1 : IntKind.i64.wrap ((j : Int) + 1) = (j : Int) + 1 := wrap64 (by omega) (by omega)
      have w2 : IntKind.i64.wrap ((m : Int) + 1) = (m : Int) + 1 := wrap64 (by omega) (by omega)
      obtain ⟨b, hbb⟩ : ∃ b, b = (nextF x.lit m).1 := ⟨_, rfl⟩
      rw [← hbb] at hN s2
      simp only [litCs, strsA, intsA] at hN
      simp [hx, h, partCs, strsA, intsA, w1, -getElem?_pos]
      refine callP_of hN (by simp) (by simp) ?_
      cases b
      · simp [w1]
        exact ⟨j + 1, m, by simp, ⟨by omega, by omega, by simpa using s2⟩, by omega⟩
      · simp [w1, w2]
        exact ⟨j + 1, m + 1, by simp, ⟨by omega, by omega, by simpa using s2⟩, by omega⟩
    · obtain rfl : j = main.length := by omega
      rw [List.take_length, k4] at hm
      cases hm
      have e1 : decide ((wtL main : Int) + (sels.map wtL).sum ≤ ps.length) = true := decide_eq_true (by omega)
      have e2 : decide ((main.length : Int) > 0) = true := decide_eq_true (by have := List.length_pos_iff.2 k5; omega)
      rw [k2] at hA
      simp [e1]
      refine .inr (callP_of hA (by simp) (by simp) ?_)
      simp
      first
        | exact k5
        | (have := List.length_pos_iff.2 k5; omega)
theorem normSmall_h (ps : List Part) (scope : Int) (hsc : R64 scope) (hb : PB ps) : Has Tryz.prog 6 [.agg [psA ps], iA scope] (bA true) noTok := by
  by_cases h0 : codeF ps scope = 0
  · obtain ⟨ts, h1, -⟩ := codes.2 h0
    exact small_good ps scope hsc hb ts h1
  · exact small_bad ps scope hsc hb h0
end Go.Proofs.YtldnkeackphilaaGreatDoor.X
/- A plan as an argument: what it reads as. -/
namespace Go.Proofs.YtldnkeackphilaaGreatDoor
open Go.RowKit

theorem map_of {α : Type} {f : α → List AV} {Q : α → Prop} : ∀ {es : List (List AV)}, (∀ x ∈ es, ∃ y, x = f y ∧ Q y) → ∃ L : List α, es = L.map f ∧ ∀ y ∈ L, Q y
  | [], _ => ⟨[], rfl, fun y hy => by simp at hy⟩
  | x :: es, h => by
    obtain ⟨y, rfl, hy⟩ := h x (by simp)
    obtain ⟨L, rfl, hL⟩ := map_of (es := es) fun z hz => h z (by simp [hz])
    exact ⟨y :: L, rfl, fun z hz => by rcases List.mem_cons.1 hz with rfl | hz; exact hy; exact hL z hz⟩
theorem len_of {n k m : Nat} (h : n * k ≤ reachBytes) (hk : 140737488351232 ≤ m * k) (h0 : 0 < k) : n ≤ m := by
  refine Nat.le_of_mul_le_mul_right (Nat.le_trans h ?_) h0
  simpa [reachBytes] using hk
theorem ints_of' {l : List AV} (h : (PT.sl .nu 8).Of l) : ∃ L : List Int, l = [intsA L] ∧ L.length ≤ 17592186043904 ∧ ∀ k ∈ L, -9223372036854775808 ≤ k ∧ k ≤ 9223372036854775807 := by
  obtain ⟨es, rfl, hl, he⟩ := h
  obtain ⟨L, rfl, hL⟩ := map_of (f := fun n : Int => [iA n]) (Q := fun k => -9223372036854775808 ≤ k ∧ k ≤ 9223372036854775807) fun x hx => he x hx
  exact ⟨L, rfl, len_of (k := 8) (by simpa using hl) (by omega) (by omega), hL⟩
end Go.Proofs.YtldnkeackphilaaGreatDoor
/- What a row of this seat gives: the listed variables' cells; a world that meets it; arguments of plain types read; from a function's contract to the row. -/
namespace Go.Proofs.YtldnkeackphilaaGreatDoor
open Go.ChangeShapes Go.WideShapes Go.RowKit

theorem Tryz.ownNone : ownKnob Tryz.prog.godebug = none := by kernel_rfl
theorem Tryz.etNamed : Tryz.prog.globalNamed "errors.errorType" = some 0 := by kernel_rfl
theorem Tryz.rtCut : (Tryz.prog.cutTypes.find? (·.1 == "internal/reflectlite.rtype")).map (·.2) = some 240 := by kernel_rfl
theorem Tryz.typesSize : Tryz.prog.types.size = 426 := by kernel_rfl
theorem Tryz.oneRow : ((List.range 426).filter fun t => Tryz.prog.rowNamed t [101, 114, 114, 111, 114]) = [44] := by kernel_rfl
def laidN : List (String × DataW Unit) := [("unicode/utf8.acceptRanges", Rows.laid_unicode_utf8_acceptRanges), ("errors.errorType", Rows.laid_errors_errorType), ("unicode/utf8.first", Rows.laid_unicode_utf8_first)]
def laidP : List (String × DataW Unit) := [("unicode/utf8.acceptRanges", Rows.laid_unicode_utf8_acceptRanges), ("unicode/utf8.first", Rows.laid_unicode_utf8_first)]
theorem handle_of_laid {W : World} (h : laidMetH Tryz.prog laidN W) : W.cell? ⟨0, 0, none⟩ = some (.iface 240 (.agg #[.pointer (some ⟨4, 44, none⟩)])) := by
  have h' : laidMet Tryz.prog laidP W ∧ handlesMet Tryz.prog [("errors.errorType", Rows.laid_errors_errorType)] W := h
  obtain ⟨name, u, ty, e1, e2, e3, e4, e5⟩ := h'.2 _ (List.mem_singleton.2 rfl)
  have en : name = [101, 114, 114, 111, 114] := (Option.some.inj e1).symm
  subst en
  obtain rfl := Option.some.inj (Tryz.rtCut.symm.trans e2)
  have hm : ty ∈ (List.range 426).filter fun t => Tryz.prog.rowNamed t [101, 114, 114, 111, 114] := List.mem_filter.2 ⟨List.mem_range.2 (by rw [← Tryz.typesSize]; exact e3), e4⟩
  rw [Tryz.oneRow] at hm
  obtain rfl := List.mem_singleton.1 hm
  have hh : typeHandle Tryz.prog 44 = .pointer (some ⟨4, 44, none⟩) := by kernel_rfl
  rw [hh] at e5
  simpa using World.var?_cell Tryz.etNamed e5 0
theorem max_of_shaped {W : World} (h : W.ShapedOpen Tryz.prog) : ∃ m, W.cell? ⟨1, 0, none⟩ = some (.int .i64 m) :=
  cell_of_shapedOpen_int (zero := #[.int .i64 0]) (t := 3) h (of_decide_eq_true (by kernel_rfl)) (by kernel_rfl) rfl (by kernel_rfl) (by kernel_rfl) (by kernel_rfl)
noncomputable def witW (os : Os) : World :=
  let w0 := World.holding Tryz.prog os ⟨#[], #[], []⟩
  ({ w0 with heap := w0.heap.modify 0 fun
      | .cells _ t frozen => .cells #[.iface 240 (.agg #[.pointer (some ⟨4, 44, none⟩)])] t frozen
      | o => o } : World).layVars Tryz.prog laidP
set_option maxRecDepth 100000 in
theorem witW_os (os : Os) : (witW os).os = os := World.layVars_os _ _ _
set_option maxRecDepth 100000 in
theorem witW_met (os : Os) (args : Array Value) : laidMetH Tryz.prog laidN ((witW os).forCall (fun _ _ => 0) ⟨#[], args, []⟩).memory := by
  have h : laidMetH Tryz.prog laidN (witW os) := laidMetH_of_parts (laidMet_layVars (P := Tryz.prog) (w0 := _) (w' := witW os) (laid := laidP) ["unicode/utf8.acceptRanges", "unicode/utf8.first"] [] rfl (by kernel_rfl) (by kernel_rfl) LaidIn.none) (by kernel_rfl)
  exact h.of_heap (by simp [World.memory, World.forCall, Input.heap])

def PT.Arg : PT → AV → Prop
  | .st r, .agg l => r.Of l
  | .st _, _ => False
  | s, a => s.Of [a]
set_option linter.unusedSectionVars false
section
variable {H : Type} {enc : TypeId × Value → H} {P : Program} {W W' : World} {base : Nat}
theorem arg_one {s : PT} {v : Value} {l : List AV} (hs : s.sz = 1) (hc : v.cells.toList = [v]) (h1 : s.Of l) (h2 : ReadsTo W v.cells.toList l) : ∃ a, s.Of [a] ∧ RD W v a := by
  have hl := h1.len
  rw [hs] at hl
  obtain ⟨a, rfl⟩ := List.length_eq_one_iff.1 hl
  rw [hc] at h2
  exact ⟨a, h1, (h2 0 v a rfl rfl).2⟩
theorem arg_read {s : PT} {t : TypeId} {v : Value} {d : DataW H} {p : List MemPlace} (ho : s.ok P (.inl t) = true) (hv : Value.okWide P W .any base t v) (ht : DataW.Trod enc P W 0 (fun _ => true) true t v d p) (hw : ∀ n ∈ d.weights P t, n ≤ reachBytes) : ∃ a, s.Arg a ∧ RD W v a := by
  obtain ⟨fuel, ht⟩ := ht
  obtain ⟨hl, l, h1, h2⟩ := (read_all s).1 t fuel _ d p ho ht hw
  cases s with
  | bo =>
    simp only [PT.ok] at ho
    split at ho
    case h_2 => cases ho
    next hu =>
    refine arg_one rfl ?_ h1 h2
    cases v <;> simp [Value.okWide, hu, Cell.okWide, Cell.ok] at hv <;> rfl
  | nu =>
    simp only [PT.ok] at ho
    split at ho
    case h_2 => cases ho
    next hu =>
    refine arg_one rfl ?_ h1 h2
    cases v <;> simp [Value.okWide, hu, Cell.okWide, Cell.ok] at hv <;> rfl
  | tx =>
    simp only [PT.ok] at ho
    split at ho
    case h_2 => cases ho
    next hu =>
    refine arg_one rfl ?_ h1 h2
    cases v <;> simp [Value.okWide, hu, Cell.okWide, Cell.ok] at hv <;> rfl
  | sl e m =>
    simp only [PT.ok] at ho
    split at ho
    case h_2 => cases ho
    next u hu =>
    refine arg_one rfl ?_ h1 h2
    cases v <;> simp [Value.okWide, hu, Cell.okWide, Cell.ok] at hv <;> rfl
  | st r =>
    simp only [PT.ok] at ho
    split at ho
    case h_2 => cases ho
    next fs hu =>
    simp only [Value.okWide, hu] at hv
    obtain ⟨cs, rfl, hsz, -⟩ := hv
    have hlen : cs.size = l.length := by rw [h1.len]; simpa [Value.cells] using hl
    refine ⟨.agg l, h1, .agg _ _ hlen (fun j v hj => ?_) fun j v a hj ha => ?_⟩
    · have hjl : j < l.length := by rw [← hlen]; exact (Array.getElem?_eq_some_iff.1 hj).1
      exact (h2 j v l[j] (by simpa [Value.cells] using hj) (List.getElem?_eq_getElem hjl)).1
    · exact (h2 j v a (by simpa [Value.cells] using hj) ha).2
  | unit => simp [PT.ok] at ho
  | pair a r => simp [PT.ok] at ho
def oks (P : Program) : List PT → List TypeId → Bool
  | [], [] => true
  | s :: ss, t :: ts => s.ok P (.inl t) && oks P ss ts
  | _, _ => false
def Args : List PT → List AV → Prop
  | [], [] => True
  | s :: ss, a :: l => s.Arg a ∧ Args ss l
  | _, _ => False
theorem args_read : ∀ {ss : List PT} {ts : List TypeId} {vs : List Value} {ds : List (DataW H)} {ps : List MemPlace}, oks P ss ts = true → DataW.TrodAll enc P W 0 (fun _ => true) true ts vs ds ps →
    (∀ (j : Nat) t v, ts[j]? = some t → vs[j]? = some v → Value.okWide P W .any base t v) → (∀ n ∈ DataW.weightsEach P ts ds, n ≤ reachBytes) →
    ∃ l, Args ss l ∧ vs.length = l.length ∧ ∀ (i : Nat) v b, vs[i]? = some v → l[i]? = some b → RD W v b
  | [], [], [], [], ps, _, _, _, _ => ⟨[], trivial, rfl, fun i v b h => by simp at h⟩
  | s :: ss, t :: ts, v :: vs, d :: ds, ps, ho, ht, hv, hw => by
    simp only [oks, Bool.and_eq_true] at ho
    obtain ⟨p, q, h1, h2, -⟩ := ht
    simp only [DataW.weightsEach, List.mem_append] at hw
    obtain ⟨a, k1, k2⟩ := arg_read ho.1 (hv 0 t v rfl rfl) h1 fun n hn => hw n (.inl hn)
    obtain ⟨l, k3, k4, k5⟩ := args_read ho.2 h2 (fun j t v h h' => hv (j + 1) t v (by simpa using h) (by simpa using h')) fun n hn => hw n (.inr hn)
    refine ⟨a :: l, ⟨k1, k3⟩, by simp [k4], fun i v b h h' => ?_⟩
    match i with
    | 0 => cases h; cases h'; exact k2
    | i + 1 => exact k5 i v b (by simpa using h) (by simpa using h')
  | [], _ :: _, _, _, _, ho, _, _, _ => by simp [oks] at ho
  | _ :: _, [], _, _, _, ho, _, _, _ => by simp [oks] at ho
  | [], [], _ :: _, _, _, _, ht, _, _ => by simp [DataW.TrodAll] at ht
  | [], [], [], _ :: _, _, _, ht, _, _ => by simp [DataW.TrodAll] at ht
  | _ :: _, _ :: _, [], _, _, _, ht, _, _ => by simp [DataW.TrodAll] at ht
  | _ :: _, _ :: _, _ :: _, [], _, _, ht, _, _ => by simp [DataW.TrodAll] at ht
theorem args_stay (hl : laidOutB P = true) (hb : Below W.heap.size W W') : ∀ {ts : List TypeId} {vs : List Value} {ds : List (DataW H)} {ps : List MemPlace}, (ts.all fun t => P.readableRec t && decide (t < P.types.size)) = true →
    DataW.TrodAll enc P W 0 (fun _ => true) true ts vs ds ps → (∀ x ∈ ps, x.block < W.heap.size) → DataW.TrodAll enc P W' 0 (fun b => decide (b < W.heap.size)) true ts vs ds ps
  | [], [], [], ps, _, h, _ => h
  | t :: ts, v :: vs, d :: ds, ps, hr, h, hlt => by
    obtain ⟨p, q, h1, h2, rfl⟩ := h
    simp only [List.all_cons, Bool.and_eq_true, decide_eq_true_eq] at hr
    exact ⟨p, q, hb.trod hl hr.1.1 hr.1.2 h1 fun x hx => hlt x (by simp [hx]), args_stay hl hb hr.2 h2 fun x hx => hlt x (by simp [hx]), rfl⟩
  | [], _ :: _, _, _, _, h, _ => by simp [DataW.TrodAll] at h
  | [], [], _ :: _, _, _, h, _ => by simp [DataW.TrodAll] at h
  | _ :: _, [], _, _, _, h, _ => by simp [DataW.TrodAll] at h
  | _ :: _, _ :: _, [], _, _, h, _ => by simp [DataW.TrodAll] at h
end
theorem gl_of {W : World} (hL : laidMetH Tryz.prog laidN W) (hS : W.ShapedOpen Tryz.prog) : Gl (GW W) :=
  ⟨(max_of_shaped hS).imp fun m h => ⟨_, h, rfl, .imm _ rfl⟩, ⟨_, handle_of_laid hL, rfl, .imm _ rfl⟩⟩
theorem Tryz.laidOut : laidOutB Tryz.prog = true := by kernel_rfl
end Go.Proofs.YtldnkeackphilaaGreatDoor
/- A tree as an argument; from a law's contract to the second form's row. -/
namespace Go.Proofs.YtldnkeackphilaaGreatDoor
open Go.ChangeShapes Go.WideShapes Go.RowKit

def tpartPT : PT := .st (.pair .nu (.pair .tx (.pair .nu (.pair (.sl .nu 8) .unit))))
def treePT : PT := .st (.pair (.sl tpartPT 56) .unit)
theorem tpart_of {l : List AV} (h : tpartPT.Of l) : ∃ p : Part, l = pCs p ∧ R64 p.kind ∧ R64 p.num ∧ p.text.size ≤ 140737488351232 ∧ p.kids.length ≤ 35184372088064 ∧ ∀ k ∈ p.kids, R64 k := by
  obtain ⟨l1, r1, rfl, ⟨a, rfl, ha⟩, l2, r2, rfl, ⟨b, rfl, hb⟩, l3, r3, rfl, ⟨c, rfl, hc⟩, l4, r4, rfl, hd, rfl⟩ := h
  obtain ⟨d, rfl, hd2, hd3⟩ := ints_of' hd
  have r64 : ∀ n : Int, -9223372036854775808 ≤ n ∧ n ≤ 9223372036854775807 → R64 n := fun n h => ⟨h.1, h.2⟩
  exact ⟨⟨a, b, c, d⟩, rfl, r64 a ha, r64 c hc, by simpa [reachBytes] using hb, by show d.length ≤ _; omega, fun k hk => r64 k (hd3 k hk)⟩
theorem tree_of {l : List AV} (h : treePT.Of l) : ∃ ps : List Part, l = [psA ps] ∧ X.PB ps := by
  obtain ⟨l1, r1, rfl, ⟨es, rfl, hl, he⟩, rfl⟩ := h
  obtain ⟨L, rfl, hL⟩ := map_of (f := pCs) (Q := fun p => R64 p.kind ∧ R64 p.num ∧ p.text.size ≤ 140737488351232 ∧ p.kids.length ≤ 35184372088064 ∧ ∀ k ∈ p.kids, R64 k) fun x hx => tpart_of (he x hx)
  have := len_of (m := 2513169434850) (k := 56) (by simpa using hl) (by omega) (by omega)
  exact ⟨L, rfl, Nat.le_trans this (by decide), hL⟩
theorem tree_args {f : FuncId} (law : ∀ (ps : List Part) (scope : Int), R64 scope → X.PB ps → Has Tryz.prog f [.agg [psA ps], iA scope] (bA true) noTok) (l : List AV) (h : Args [treePT, .nu] l) : Has Tryz.prog f l (.imm (.bool true)) noTok := by
  rcases l with _ | ⟨a, _ | ⟨b, _ | ⟨c, l⟩⟩⟩
  · exact h.elim
  · exact h.2.elim
  · obtain ⟨h1, h2, -⟩ := h
    cases a with
    | agg l =>
      obtain ⟨ps, rfl, hp⟩ := tree_of h1
      obtain ⟨n, e, hn⟩ := h2
      cases e
      exact law ps n ⟨hn.1, hn.2⟩ hp
    | _ => exact h1.elim
  · exact h.2.2.elim
theorem args_len : ∀ {ss : List PT} {l : List AV}, Args ss l → ss.length = l.length
  | [], [], _ => rfl
  | _ :: _, _ :: _, h => by simp [args_len h.2]
  | [], _ :: _, h => h.elim
  | _ :: _, [], h => h.elim
theorem trod_len {H : Type} {enc : TypeId × Value → H} {P : Program} {W : World} : ∀ {ts : List TypeId} {vs : List Value} {ds : List (DataW H)} {ps : List MemPlace}, DataW.TrodAll enc P W 0 (fun _ => true) true ts vs ds ps → ds.length = vs.length := by
  intro ts
  induction ts with
  | nil => intro vs ds ps h; cases vs <;> cases ds <;> simp [DataW.TrodAll] at h ⊢
  | cons t ts ih => intro vs ds ps h; cases vs <;> cases ds <;> simp [DataW.TrodAll] at h ⊢; obtain ⟨p, q, _, h, _⟩ := h; exact ih h
set_option maxRecDepth 100000 in
theorem law_upto {f : FuncId} {fn : Func} {s : ChangeSpec} (ss : List PT) (os : Os) (started : os.Started) (H : Type) (enc : TypeId × Value → H) (F : Stop.Interp)
    (noInit : Tryz.prog.inits.idxOf? f = none) (hfn : Tryz.prog.funcs[f]? = some fn) (hvars : s.vars = []) (hoks : oks Tryz.prog ss fn.params.toList = true) (hread : (fn.params.toList.all fun t => Tryz.prog.readableRec t && decide (t < Tryz.prog.types.size)) = true)
    (hres : fn.resultTypes = #[4]) (hspec : ∀ ds : List (DataW H), ds.length = ss.length → s.fn H ds = { results := [.lit (.bool true)], args := ds }) (law : ∀ l, Args ss l → Has Tryz.prog f l (.imm (.bool true)) noTok)
    (witness : ∃ (w : World) (tape : Tape) (i : Input), w.os = os ∧ (w.forCall tape i).Shaped Tryz.prog ∧ i.vars = [] ∧ Input.okWide Tryz.prog (w.forCall tape i) .any w.heap.size f i ∧
      (Rows.OpenSpec.upto s).preRow enc Tryz.prog fn [] false laidN (w.forCall tape i).memory i.args ∧ ({} : Assume).holds Tryz.prog (lone (Frame.enter Tryz.prog f i.args .normal) [] (w.forCall tape i))) :
    ReturnsInHanded {} Tryz.checked os f .any ((Rows.OpenSpec.upto s).preRow enc Tryz.prog fn [] false laidN) (((Rows.OpenSpec.upto s).at F).post enc Tryz.prog fn false true false false) := by
  refine returnsInHanded_of_row (C := Tryz.checked) (s := Rows.OpenSpec.upto s) Tryz.ownNone started noInit hfn witness ?_
  intro W base args ds gs before hval hW _ _ hwt hL hsh _
  have hval : ∀ (j : Nat) t v, fn.params[j]? = some t → args[j]? = some v → Value.okWide Tryz.prog W .any base t v := hval
  have hw : DataW.Whole enc Tryz.prog fn.params.toList s.vars false W args.toList ds gs before := hW
  have hW := hw
  obtain ⟨p, q, hA, hV, rfl, _, _⟩ := hW
  rw [hvars] at hV
  obtain ⟨rfl, rfl⟩ := trodVars_none hV
  have hwt' : ∀ n ∈ DataW.weightsEach Tryz.prog fn.params.toList ds, n ≤ reachBytes := fun n hn => by
    have hvt : s.plain.varTypes Tryz.prog = [] := by simp [DataSpec.varTypes, ChangeSpec.plain, hvars]
    have hwt : (DataW.weightsEach Tryz.prog (fn.params.toList ++ s.plain.varTypes Tryz.prog) (ds ++ [])).all (· ≤ reachBytes) = true := hwt
    rw [hvt, List.append_nil, List.append_nil] at hwt
    exact of_decide_eq_true (List.all_eq_true.1 hwt n hn)
  obtain ⟨l, hargs, hlen, hr⟩ := args_read (base := base) hoks hA (fun j t v h h' => hval j t v (by rw [Array.getElem?_toList] at h; exact h) (by rw [Array.getElem?_toList] at h'; exact h')) hwt'
  have hlt : ∀ x ∈ p ++ ([] : List MemPlace), x.block < W.heap.size := fun x hx => by simpa using hw.lt x hx
  have hdl : ds.length = ss.length := by rw [trod_len hA, args_len hargs, hlen]
  refine ((law l hargs).use_imm W (gl_of hL hsh) args (by rw [← hlen, Array.length_toList]) fun j v b h h' => hr j v b (by rw [Array.getElem?_toList]; exact h) h').mono ?_
  rintro e W' ⟨rfl, hb⟩
  refine ⟨_, rfl, ?_⟩
  show s.post enc Tryz.prog fn false true false false W args (.bool true) W'
  refine ⟨ds, [], p ++ [], [], p, [], hw, ?_, ?_, ?_, hb.frame _, fun h => by cases h⟩
  · rw [List.append_nil, hspec ds hdl, hres]
    exact trodAll_mk1 (shut_bool Tryz.underlying4 true)
  · rw [List.append_nil, hspec ds hdl]
    exact args_stay Tryz.laidOut hb hread hA fun x hx => hlt x (by simp [hx])
  · rw [List.append_nil, hspec ds hdl, hvars]
    rfl
end Go.Proofs.YtldnkeackphilaaGreatDoor
/- berthlaw16.NormSmall: for every tree and scope of bulk at most the given bound, the law answers true. Conditions: the second form's bound, and those of the given row (it lists three variables of Go's library; the card ties them to the program's text). -/
namespace Go.Proofs.YtldnkeackphilaaGreatDoor
open Go.ChangeShapes Go.WideShapes Go.RowKit

def smallArgs : Array Value := #[.agg #[.slice .none 0 0], .int .i64 0]
theorem small_reads (os : Os) {H : Type} (enc : TypeId × Value → H) : ∃ places, DataW.whole enc Tryz.prog ((witW os).forCall (fun _ _ => 0) ⟨#[], smallArgs, []⟩).memory Tryz.f6.params.toList Rows.normSmallSpec.vars false smallArgs.toList 8 = some ([.agg [.nil], .lit (.int .i64 0)], [], places) :=
  ⟨[], by kernel_rfl⟩
set_option maxRecDepth 100000 in
theorem small_wit (os : Os) (H : Type) (enc : TypeId × Value → H) : ∃ (w : World) (tape : Tape) (i : Input), w.os = os ∧ (w.forCall tape i).Shaped Tryz.prog ∧ i.vars = [] ∧ Input.okWide Tryz.prog (w.forCall tape i) .any w.heap.size 6 i ∧
      (Rows.OpenSpec.upto Rows.normSmallSpec).preRow enc Tryz.prog Tryz.f6 [] false laidN (w.forCall tape i).memory i.args ∧ ({} : Assume).holds Tryz.prog (lone (Frame.enter Tryz.prog 6 i.args .normal) [] (w.forCall tape i)) := by
  obtain ⟨places, hx⟩ := small_reads os enc
  have hok : Input.okWideB Tryz.prog ((witW os).forCall (fun _ _ => 0) ⟨#[], smallArgs, []⟩) 6 ⟨#[], smallArgs, []⟩ = true := by kernel_rfl
  refine ⟨witW os, fun _ _ => 0, ⟨#[], smallArgs, []⟩, witW_os os, World.shaped_of_ZipB (by kernel_rfl) (by kernel_rfl), (Input.okWide_of_okWideB (base := 0) hok).1, (Input.okWide_of_okWideB hok).2,
    OpenSpec.preRow_of_cond 8 hx (by kernel_rfl) (fun k hk => by cases hk; kernel_rfl) (by kernel_rfl) (witW_met os _), ?_⟩
  simp only [Assume.holds]
  exact ⟨by simp, by simp, fun _ => Modest.zero, by simp, by simp⟩
set_option maxRecDepth 100000 in
theorem normSmall_lifted (os : Os) (started : os.Started) (H : Type) (enc : TypeId × Value → H) (F : Stop.Interp) :
    ReturnsInHanded {} Tryz.checked os 6 .any ((Rows.OpenSpec.upto Rows.normSmallSpec).preRow enc Tryz.prog Tryz.f6 [] false laidN) (((Rows.OpenSpec.upto Rows.normSmallSpec).at F).post enc Tryz.prog Tryz.f6 false true false false) :=
  law_upto [treePT, .nu] os started H enc F (by kernel_rfl) Tryz.func6 rfl (by kernel_rfl) (by kernel_rfl) (by kernel_rfl)
    (fun ds hd => by
      match ds, hd with
      | [d1, d2], _ => rfl)
    (tree_args X.normSmall_h) (small_wit os H enc)
theorem normSmall_holds : Rows.NormSmallUptoSaid :=
  OpenClaim.holds_of_cond 6 Tryz.f6 rfl rfl rfl rfl rfl rfl rfl ⟨rfl, rfl, rfl, rfl, rfl⟩ rfl rfl rfl rfl rfl (by kernel_rfl) Tryz.func6 normSmall_facts
    (of_decide_eq_true (by kernel_rfl)) (by unfold Func.isWrapper; first | (rw [if_pos (by decide +kernel)]; kernel_rfl) | (rw [if_neg (by decide +kernel)]; exact ⟨rfl, rfl⟩))
    (fun os started H enc _ F => by rw [OpenClaim.pre_eq_preRow]; exact normSmall_lifted os started H enc F)
theorem normSmall_card : Rows.NormSmallUptoCardSaid :=
  Claim7.holds_tied_plain_at .later [] [.data, .handle, .pinned] true (true, "3a9c8ba0db31394d13176adf808722b56f8a218ac4adacccb409ce61df157404") true
    normSmall_holds (fun _ h => by cases h) (by kernel_rfl) (fun _ h => by cases h) normSmallUpto_row_tie rfl ⟨rfl, rfl⟩ (by kernel_rfl) rfl
    (fun f fn hf hfn => by
      obtain rfl : f = 6 := Option.some.inj ((show Tryz.prog.funcNamed "berth/berthlaw16.NormSmall" = some 6 by kernel_rfl).symm.trans hf) |>.symm
      obtain rfl : fn = Tryz.f6 := (Option.some.inj (Tryz.func6.symm.trans hfn)).symm
      exact ⟨by kernel_rfl, fun j t ht => by
        rw [Tryz.params6] at ht
        have hm : t ∈ [30, 3] := by simpa using Array.mem_of_getElem? ht
        have hall : ([30, 3].all fun u => !Tryz.prog.wantsStandIn u) = true := by kernel_rfl
        exact (show Tryz.prog.wantsStandIn t = false by simpa using List.all_eq_true.1 hall t hm)⟩)
    (by kernel_rfl)
#print axioms normSmall_card
end Go.Proofs.YtldnkeackphilaaGreatDoor
