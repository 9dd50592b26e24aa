/- sorts: spread. -/
import Derived.BigRegion
import Derived.Test.YtldnkeackphilaaGreatDoorNd15
import Derived.LaidEql
import Derived.Stop.Asserts
import Derived.RowKitTokens
import Derived.Test.YtldnkeackphilaaGreatDoorNd11
set_option linter.unusedSimpArgs false
set_option linter.unusedVariables false
set_option linter.unusedSectionVars false
namespace Go.Proofs.YtldnkeackphilaaGreatDoor
open Go.RowKit

def scopeKids (below : Int) (kids : List Int) (out : List Int) : List Int := kids.foldl (fun out k => out.set k.toNat below) out
def scopeStep (ps : List Part) (out : List Int) (i : Nat) : List Int :=
  match ps[i]? with
  | none => out
  | some p => scopeKids (if selK p.kind then 3 else out.getD i 0) p.kids out
def scopesF (ps : List Part) (scope : Int) : List Int := (List.range ps.length).reverse.foldl (scopeStep ps) ((List.replicate ps.length 0).set (ps.length - 1) scope)
theorem scopeKids_len (below : Int) : ∀ (kids : List Int) (out : List Int), (scopeKids below kids out).length = out.length := by
  intro kids
  induction kids with
  | nil => intro out; rfl
  | cons k r ih => intro out; simp only [scopeKids, List.foldl_cons] at ih ⊢; rw [ih]; simp
theorem scopeKids_snoc (below : Int) (kids : List Int) (k : Int) (out : List Int) : scopeKids below (kids ++ [k]) out = (scopeKids below kids out).set k.toNat below := by
  simp [scopeKids, List.foldl_append]
theorem scopeKids_at (below : Int) (i : Nat) : ∀ (kids : List Int) (out : List Int), (∀ k ∈ kids, 0 ≤ k ∧ k < (i : Int)) → (scopeKids below kids out)[i]? = out[i]? := by
  intro kids
  induction kids with
  | nil => intro out _; rfl
  | cons k r ih =>
    intro out h
    have hk := h k (by simp)
    simp only [scopeKids, List.foldl_cons] at ih ⊢
    rw [ih _ (fun x hx => h x (by simp [hx])), List.getElem?_set_ne (by omega)]
theorem scopes_next {ps : List Part} {i : Nat} {p : Part} {out : List Int} (hp : ps[i]? = some p) : (List.range (i + 1)).reverse.foldl (scopeStep ps) out = (List.range i).reverse.foldl (scopeStep ps) (scopeKids (if selK p.kind then 3 else out.getD i 0) p.kids out) := by
  rw [List.range_succ, List.reverse_append]
  simp [scopeStep, hp]
theorem scopesF_len (ps : List Part) (scope : Int) : (scopesF ps scope).length = ps.length := by
  unfold scopesF
  generalize hx : (List.replicate ps.length (0 : Int)).set (ps.length - 1) scope = out
  have hl : out.length = ps.length := by rw [← hx]; simp
  clear hx
  generalize (List.range ps.length).reverse = l
  induction l generalizing out with
  | nil => exact hl
  | cons i r ih =>
    rw [List.foldl_cons]
    refine ih _ ?_
    unfold scopeStep
    split
    · exact hl
    · rw [scopeKids_len]; exact hl
theorem scopeKids_r (below : Int) (hb : R64 below) : ∀ (kids : List Int) (out : List Int), (∀ x ∈ out, R64 x) → ∀ x ∈ scopeKids below kids out, R64 x := by
  intro kids
  induction kids with
  | nil => intro out h; exact h
  | cons k r ih =>
    intro out h
    simp only [scopeKids, List.foldl_cons] at ih ⊢
    refine ih _ fun x hx => ?_
    rcases List.mem_or_eq_of_mem_set hx with h1 | rfl
    · exact h x h1
    · exact hb
theorem Tryz.make_sides (n : Nat) (hn : n ≤ 35184372088064) : ∀ W : World, (Instr.makeSlice 123 (.int .i64 (n : Int)) (.int .i64 (n : Int))).run Tryz.prog W = .ok (.slice (some ⟨W.heap.size, 0, none⟩) n n) (W.alloc (.cells (madeCells #[.int .i64 0] n) 36)) := by
  intro W
  exact run_make_row' 123 36 (.int .i64 0) 8 Tryz.underlying123 (by kernel_rfl : (Tryz.prog.info? 36).map (fun i => (i.zero, i.size, i.bytes)) = some (some (.int .i64 0), 1, 8)) rfl .i64 .i64 n (by omega) (by omega) W
abbrev OwnSides := OwnF (Value.int .i64) 36
set_option maxHeartbeats 4000000 in
set_option maxRecDepth 100000 in
theorem spread_c (lb : Nat) (pv : Value) (ps : List Part) (scope : Int) (w0 w : World) (hp : PartsV w0 pv ps) (hwf : WF ps) (hb : Below w0.heap.size w0 w) (hlb : w0.heap.size ≤ lb) (hsc : R64 scope)
    (hh : w.heap[lb]? = some (.cells #[pv, .slice none 0 0, .slice none 0 0] 125 (0, 0))) :
    Calls Tryz.prog 46 #[.pointer (some ⟨lb, 0, none⟩), .int .i64 scope] w fun e w' => e = .returned (.tuple #[]) ∧
      w'.heap[lb]? = some (.cells #[pv, .slice (some ⟨w.heap.size, 0, none⟩) ps.length ps.length, .slice none 0 0] 125 (0, 0)) ∧ IntsV w' (.slice (some ⟨w.heap.size, 0, none⟩) ps.length ps.length) (scopesF ps scope) ∧ w.grownBy w' (some lb) := by
  obtain ⟨A, c, rfl, hlen, hps⟩ := hp
  have hpos := hwf.pos
  have hle := hwf.le
  obtain ⟨b, o, hAA⟩ : ∃ b o, A = some ⟨b, o, none⟩ := by
    obtain ⟨b, o, _, hA, _⟩ := hps 0 ps[0] (by simp [List.getElem?_eq_getElem hpos])
    exact ⟨b, o, hA⟩
  subst hAA
  have HP : PartsV w0 (.slice (some ⟨b, o, none⟩) ps.length c) ps := ⟨_, c, rfl, hlen, hps⟩
  clear hps
  have hmk := Tryz.make_sides ps.length (by omega)
  have HWF := Lib.hid hwf
  have hs1 : ((ps.length : Int) - 1) = ((ps.length - 1 : Nat) : Int) := by omega
  have hlt : lb < w.heap.size := (Array.getElem?_eq_some_iff.1 hh).1
  have hl0 : w.cell? ⟨lb, 0, none⟩ = some (.slice (some ⟨b, o, none⟩) ps.length c) := cell_of_row _ _ 0 _ _ _ hh
  have hl1 : w.cell? ⟨lb, 1, none⟩ = some (.slice none 0 0) := cell_of_row _ _ 1 _ _ _ hh
  have hlf : w.frozen? ⟨lb, 1, none⟩ = false := by unfold World.frozen?; rw [hh]; simp
  have Hh := Lib.hid hh
  clear hwf hh
  go_enter Tryz.func46, Tryz.ntmps46
  go_wp2
  have hne : w.heap.size ≠ lb := by omega
  have hX : (w.setCell ⟨lb, 1, none⟩ (.slice (some ⟨w.heap.size, 0, none⟩) ps.length ps.length)).heap.size = w.heap.size := by simp [World.setCell]
  have HGX : Hid (w.grownBy (w.setCell ⟨lb, 1, none⟩ (.slice (some ⟨w.heap.size, 0, none⟩) ps.length ps.length)) (some lb)) := grown_set (World.grownBy.refl w _) (.inl rfl) _
  have HHX : Hid ((w.setCell ⟨lb, 1, none⟩ (.slice (some ⟨w.heap.size, 0, none⟩) ps.length ps.length)).heap[lb]? = some (.cells #[.slice (some ⟨b, o, none⟩) ps.length c, .slice (some ⟨w.heap.size, 0, none⟩) ps.length ps.length, .slice none 0 0] 125 (0, 0))) := blk_set Hh.out 1 _
  generalize w.setCell ⟨lb, 1, none⟩ (.slice (some ⟨w.heap.size, 0, none⟩) ps.length ps.length) = X at *
  have HO1 : Hid (OwnSides (X.alloc (.cells (madeCells #[.int .i64 0] ps.length) 36)) w.heap.size (.slice (some ⟨w.heap.size, 0, none⟩) ps.length ps.length) (List.replicate ps.length 0)) := by
    have := OwnF.made (f := Value.int .i64) (E := 36) 0 X w.heap.size ps.length (by omega) (by omega)
    rw [hX] at this
    exact this
  have HG1 : Hid (w.grownBy (X.alloc (.cells (madeCells #[.int .i64 0] ps.length) 36)) (some lb)) := HGX.out.trans (World.grownBy_alloc X _ _)
  have HH1 : Hid ((X.alloc (.cells (madeCells #[.int .i64 0] ps.length) 36)).heap[lb]? = some (.cells #[.slice (some ⟨b, o, none⟩) ps.length c, .slice (some ⟨w.heap.size, 0, none⟩) ps.length ps.length, .slice none 0 0] 125 (0, 0))) := (Below.heap_alloc _ _ _ (by omega)).trans HHX.out
  generalize hW : X.alloc (.cells (madeCells #[.int .i64 0] ps.length) 36) = W1 at *
  have hsz : w.heap.size < W1.heap.size := by rw [← hW]; simp; omega
  clear HGX HHX hX
  clear hW hl0 hl1 hlf Hh
  have hl0 : W1.cell? ⟨lb, 0, none⟩ = some (.slice (some ⟨b, o, none⟩) ps.length c) := cell_of_row _ _ 0 _ _ _ HH1.out
  have hl1 : W1.cell? ⟨lb, 1, none⟩ = some (.slice (some ⟨w.heap.size, 0, none⟩) ps.length ps.length) := cell_of_row _ _ 1 _ _ _ HH1.out
  obtain ⟨g', hg', -, hgl, hgc⟩ := HO1.out.form' (by rw [List.length_replicate]; omega)
  obtain rfl : w.heap.size = g' := by simpa using hg'
  have hc5 := hgc (ps.length - 1) 0 (by rw [List.getElem?_replicate, if_pos (by omega)])
  have hfz := HO1.out.free (ps.length - 1)
  have hs2 : (0 : Int) ≤ ((ps.length - 1 : Nat) : Int) := by omega
  have hs3 : ((ps.length - 1 : Nat) : Int) < ps.length := by omega
  have HO2 := Lib.hid (HO1.out.store List.length_replicate (ps.length - 1) scope).1
  have HG2 := Lib.hid (grown_set HG1.out (p := ⟨w.heap.size, ps.length - 1, none⟩) (.inr (Nat.le_refl _)) (.int .i64 scope))
  have HH2 := Lib.hid (blk_far HH1.out (p := ⟨w.heap.size, ps.length - 1, none⟩) (Ne.symm hne) (.int .i64 scope))
  clear hgc hg' HO1 HG1 HH1
  go_region
  generalize hW2 : (W1.setCell ⟨w.heap.size, ps.length - 1, none⟩ (.int .i64 scope)).drew = W2 at *
  have HO3 : Hid (OwnSides W2 w.heap.size (.slice (some ⟨w.heap.size, 0, none⟩) ps.length ps.length) ((List.replicate ps.length 0).set (ps.length - 1) scope)) := by rw [← hW2]; exact HO2.out
  have HG3 : Hid (w.grownBy W2 (some lb)) := by rw [← hW2]; exact grown_dr HG2.out 1
  have HH3 : Hid (W2.heap[lb]? = some (.cells #[.slice (some ⟨b, o, none⟩) ps.length c, .slice (some ⟨w.heap.size, 0, none⟩) ps.length ps.length, .slice none 0 0] 125 (0, 0))) := by rw [← hW2]; exact HH2.out
  clear hW2 HO2 HG2 HH2 hl0 hl1 hc5 hfz hsz hs2 hs3 hgl
  have hl0 : W2.cell? ⟨lb, 0, none⟩ = some (.slice (some ⟨b, o, none⟩) ps.length c) := cell_of_row _ _ 0 _ _ _ HH3.out
  go_wp2
  clear hmk hs1 hl0
  go_loopw [4] (fun i wr => ∃ (m : Nat) (out : List Int), m ≤ ps.length ∧ i = .int .i64 ((m : Int) - 1) ∧ Hid (out.length = ps.length) ∧ Hid (∀ x ∈ out, R64 x) ∧ Hid (OwnSides wr w.heap.size (.slice (some ⟨w.heap.size, 0, none⟩) ps.length ps.length) out) ∧ Hid (w.grownBy wr (some lb)) ∧ Hid (wr.heap[lb]? = some (.cells #[.slice (some ⟨b, o, none⟩) ps.length c, .slice (some ⟨w.heap.size, 0, none⟩) ps.length ps.length, .slice none 0 0] 125 (0, 0))) ∧ Hid (scopesF ps scope = (List.range m).reverse.foldl (scopeStep ps) out)) (fun i wr => (intOf i + 1).toNat)
  case atStart =>
    refine ⟨ps.length, _, Nat.le_refl _, ?_, Lib.hid (by simp), Lib.hid (fun x hx => ?_), HO3, HG3, HH3, Lib.hid rfl⟩
    · congr 1; omega
    · rcases List.mem_or_eq_of_mem_set hx with h1 | rfl
      · rw [List.eq_of_mem_replicate h1]; exact ⟨by omega, by omega⟩
      · exact hsc
  case round =>
    obtain ⟨m, out, hm, rfl, Hol, Hob, HO, HG, HH, HS⟩ := hrel
    have HB0 : Below w0.heap.size w0 wr := hb.grown HG.out hb.size (fun k hk => by cases hk; exact hlb)
    have hgsz : w.heap.size < wr.heap.size := by
      obtain ⟨g', hg', -, hgl, -⟩ := HO.out.form' (by have := Hol.out; omega)
      obtain rfl : w.heap.size = g' := by simpa using hg'
      exact hgl
    by_cases hm0 : m = 0
    · subst hm0
      have hfin := HS.out
      simp only [List.range_zero, List.reverse_nil, List.foldl_nil] at hfin
      have Hfin := Lib.hid hfin
      clear hfin
      go_wp2
      go_end0
      refine ⟨rfl, HH.out, ?_, HG.out⟩
      rw [Hfin.out]
      have h2 := HO.out
      rw [← Hol.out] at h2
      have h3 := h2.reads (by have := Hol.out; omega) Hob.out
      rw [Hol.out] at h3
      exact h3
    · obtain ⟨i, rfl⟩ : ∃ i, m = i + 1 := ⟨m - 1, by omega⟩
      have hi : i < ps.length := by omega
      have hget : ps[i]? = some ps[i] := List.getElem?_eq_getElem hi
      obtain ⟨b', o', kv, hA, hbl0, hr, hd0, hd1, hd2, hd3⟩ := HP.get hget
      obtain ⟨rfl, rfl⟩ : b' = b ∧ o' = o := by simpa using hA.symm
      have hc3 := cell_below HB0 hd3
      have hkr := HWF.out.kids i _ hget
      have hl0 : wr.cell? ⟨lb, 0, none⟩ = some (.slice (some ⟨b', o', none⟩) ps.length c) := cell_of_row _ _ 0 _ _ _ HH.out
      generalize hpp : ps[i] = p at *
      obtain ⟨Ak, ck, rfl, hkl, hkc⟩ := hr.2.2.2
      obtain ⟨oi, hoi⟩ : ∃ oi, out[i]? = some oi := ⟨_, List.getElem?_eq_getElem (by have := Hol.out; omega)⟩
      have hoR := Hob.out oi (List.mem_of_getElem? hoi)
      have Hoi : Hid (out.getD i 0 = oi) := by unfold Hid; simp [List.getD_eq_getElem?_getD, hoi]
      have Hoi' := Lib.hid hoi
      have Hkr := Lib.hid hkr
      have Hget := Lib.hid hget
      have Hkc : Hid (IntsV w0 (.slice Ak p.kids.length ck) p.kids) := ⟨Ak, ck, rfl, hkl, hkc⟩
      have Hd0 := Lib.hid hd0
      clear hget hkc hkr hpp hoi hd0 hd1 hd2 hd3 hA
      have hs2 : (((i + 1 : Nat) : Int) - 1) = (i : Int) := by omega
      rw [hs2]
      clear hs2
      generalize hkl' : p.kids.length = kl at *
      have Hkl := Lib.hid hkl'
      clear hkl'
      go_wp2
      clear hc3 hl0
      obtain ⟨wo, rfl⟩ : ∃ wo : World, wo = wr := ⟨_, rfl⟩
      generalize hbv : (if selK p.kind then (3 : Int) else oi) = bv
      have Hbv := Lib.hid hbv
      clear hbv
      go_loopw [47] (fun j wq => ∃ m : Nat, m ≤ kl ∧ j = .int .i64 m ∧ Hid (OwnSides wq w.heap.size (.slice (some ⟨w.heap.size, 0, none⟩) ps.length ps.length) (scopeKids bv (p.kids.take m) out)) ∧ Hid (w.grownBy wq (some lb)) ∧ Hid (wq.heap[lb]? = some (.cells #[.slice (some ⟨b', o', none⟩) ps.length c, .slice (some ⟨w.heap.size, 0, none⟩) ps.length ps.length, .slice none 0 0] 125 (0, 0)))) (fun j wq => kl - (intOf j).toNat)
      case atStart => exact ⟨0, Nat.zero_le _, rfl, HO, HG, HH⟩
      case round =>
        obtain ⟨m, hm, rfl, HOQ, HGQ, HHQ⟩ := hrel
        by_cases hml : m < kl
        · have HBQ : Below w0.heap.size w0 wr := hb.grown HGQ.out hb.size (fun k hk => by cases hk; exact hlb)
          obtain ⟨x, hx⟩ : ∃ x, p.kids[m]? = some x := ⟨_, List.getElem?_eq_getElem (by have := Hkl.out; omega)⟩
          have hkc' := Hkc.out
          obtain ⟨hR, bk, ok, hAk, hbk, hck⟩ := hkc'.get m x hx
          subst hAk
          have hxr := Hkr.out x (List.mem_of_getElem? hx)
          obtain ⟨xn, rfl⟩ : ∃ xn : Nat, x = xn := Int.eq_ofNat_of_zero_le (by omega)
          have hck' := cell_below HBQ hck
          have hxl : xn < ps.length := by omega
          have hd0 := cell_below HBQ Hd0.out
          have hl0 : wr.cell? ⟨lb, 0, none⟩ = some (.slice (some ⟨b', o', none⟩) ps.length c) := cell_of_row _ _ 0 _ _ _ HHQ.out
          have hl1 : wr.cell? ⟨lb, 1, none⟩ = some (.slice (some ⟨w.heap.size, 0, none⟩) ps.length ps.length) := cell_of_row _ _ 1 _ _ _ HHQ.out
          have HL : Hid ((scopeKids bv (p.kids.take m) out).length = ps.length) := Lib.hid (by rw [scopeKids_len]; exact Hol.out)
          obtain ⟨y, hy⟩ : ∃ y, (scopeKids bv (p.kids.take m) out)[xn]? = some y := ⟨_, List.getElem?_eq_getElem (by have := HL.out; omega)⟩
          have hoi : (scopeKids bv (p.kids.take m) out)[i]? = some oi := by rw [scopeKids_at bv i _ _ (fun k hk => Hkr.out k (List.mem_of_mem_take hk))]; exact Hoi'.out
          obtain ⟨g', hg', _, hgl, hgc⟩ := HOQ.out.form' (by have := HL.out; omega)
          obtain rfl : w.heap.size = g' := by simpa using hg'
          have hcy := hgc xn y hy
          have hci := hgc i oi hoi
          have hfz := HOQ.out.free xn
          have Hx := Lib.hid hx
          have Hsn : Hid (scopeKids bv (p.kids.take (m + 1)) out = (scopeKids bv (p.kids.take m) out).set xn bv) := by
            unfold Hid
            rw [List.take_add_one, Hx.out, Option.toList_some, scopeKids_snoc]; rfl
          have hl3 : lb < wr.heap.size := (Array.getElem?_eq_some_iff.1 HHQ.out).1
          have HO5 : Hid (∀ z, OwnSides (wr.setCell ⟨w.heap.size, xn, none⟩ (.int .i64 z)) w.heap.size (.slice (some ⟨w.heap.size, 0, none⟩) ps.length ps.length) ((scopeKids bv (p.kids.take m) out).set xn z)) := fun z => (HOQ.out.store HL.out xn z).1
          have HO6 : Hid (∀ q, OwnSides (((wr.setCell ⟨w.heap.size, xn, none⟩ (.int .i64 oi)).drewN q).setCell ⟨w.heap.size, xn, none⟩ (.int .i64 3)) w.heap.size (.slice (some ⟨w.heap.size, 0, none⟩) ps.length ps.length) (((scopeKids bv (p.kids.take m) out).set xn oi).set xn 3)) := fun q => (OwnF.store ((HO5.out oi).drewN q) (by rw [List.length_set]; exact HL.out) xn 3).1
          have HG5 : Hid (∀ z, w.grownBy (wr.setCell ⟨w.heap.size, xn, none⟩ z) (some lb)) := fun z => grown_set HGQ.out (.inr (Nat.le_refl _)) z
          have HH5 : Hid (∀ z, (wr.setCell ⟨w.heap.size, xn, none⟩ z).heap[lb]? = some (.cells #[.slice (some ⟨b', o', none⟩) ps.length c, .slice (some ⟨w.heap.size, 0, none⟩) ps.length ps.length, .slice none 0 0] 125 (0, 0))) := fun z => blk_far HHQ.out (Ne.symm hne) z
          have hnb : ¬ w.heap.size = b' := by have := HB0.size; omega
          have hnk : ¬ w.heap.size = bk := by have := hb.size; omega
          clear hgc hg' hx hy hoi hck
          by_cases hsk : selK p.kind = true
          · have hbv : bv = 3 := by rw [← Hbv.out, if_pos hsk]
            subst hbv
            go_wp2
            go_region
            generalize hW5 : (wr.setCell ⟨w.heap.size, xn, none⟩ (.int .i64 oi)).drew = W5 at *
            have HO7 : Hid (OwnSides W5 w.heap.size (.slice (some ⟨w.heap.size, 0, none⟩) ps.length ps.length) ((scopeKids 3 (p.kids.take m) out).set xn oi)) := by rw [← hW5]; exact HO5.out _
            have HG7 : Hid (w.grownBy W5 (some lb)) := by rw [← hW5]; exact grown_dr (HG5.out _) 1
            have HH7 : Hid (W5.heap[lb]? = some (.cells #[.slice (some ⟨b', o', none⟩) ps.length c, .slice (some ⟨w.heap.size, 0, none⟩) ps.length ps.length, .slice none 0 0] 125 (0, 0))) := by rw [← hW5]; exact HH5.out _
            clear hW5 HO5 HO6 HG5 HH5 hl0 hl1 hcy hci hfz hd0 hck' hl3
            have HB7 : Below w0.heap.size w0 W5 := hb.grown HG7.out hb.size (fun k hk => by cases hk; exact hlb)
            have hd0 := cell_below HB7 Hd0.out
            have hl0 : W5.cell? ⟨lb, 0, none⟩ = some (.slice (some ⟨b', o', none⟩) ps.length c) := cell_of_row _ _ 0 _ _ _ HH7.out
            have hl1 : W5.cell? ⟨lb, 1, none⟩ = some (.slice (some ⟨w.heap.size, 0, none⟩) ps.length ps.length) := cell_of_row _ _ 1 _ _ _ HH7.out
            obtain ⟨g', hg', _, hgl, hgc⟩ := HO7.out.form' (by rw [List.length_set]; have := HL.out; omega)
            obtain rfl : w.heap.size = g' := by simpa using hg'
            have hcy := hgc xn oi (by rw [List.getElem?_set_self (by have := HL.out; omega)])
            have hfz := HO7.out.free xn
            have HO8 : Hid (OwnSides (W5.setCell ⟨w.heap.size, xn, none⟩ (.int .i64 3)) w.heap.size (.slice (some ⟨w.heap.size, 0, none⟩) ps.length ps.length) ((scopeKids 3 (p.kids.take m) out).set xn 3)) := by
              have := (HO7.out.store (by rw [List.length_set]; exact HL.out) xn 3).1
              rwa [List.set_set] at this
            clear hg' hgc
            go_wp2_with (go_at_call 82; refine (inner_c _ _).mono ?_; rintro e w' ⟨rfl, rfl⟩)
            go_roundw
            case rel => exact ⟨m + 1, by omega, by go_num, by unfold Hid; rw [Hsn.out]; exact HO8.out, grown_set HG7.out (.inr (Nat.le_refl _)) _, blk_far HH7.out (Ne.symm hne) _⟩
            case measure => simp [intOf]; try omega
          · have hsk' : selK p.kind = false := by simpa using hsk
            have hbv : bv = oi := by rw [← Hbv.out, if_neg hsk]
            subst hbv
            go_wp2
            go_region
            generalize hW5 : (wr.setCell ⟨w.heap.size, xn, none⟩ (.int .i64 bv)).drew = W5 at *
            have HO7 : Hid (OwnSides W5 w.heap.size (.slice (some ⟨w.heap.size, 0, none⟩) ps.length ps.length) ((scopeKids bv (p.kids.take m) out).set xn bv)) := by rw [← hW5]; exact HO5.out _
            have HG7 : Hid (w.grownBy W5 (some lb)) := by rw [← hW5]; exact grown_dr (HG5.out _) 1
            have HH7 : Hid (W5.heap[lb]? = some (.cells #[.slice (some ⟨b', o', none⟩) ps.length c, .slice (some ⟨w.heap.size, 0, none⟩) ps.length ps.length, .slice none 0 0] 125 (0, 0))) := by rw [← hW5]; exact HH5.out _
            clear hW5 HO5 HO6 HG5 HH5 hl0 hl1 hcy hci hfz hd0 hck' hl3
            have HB7 : Below w0.heap.size w0 W5 := hb.grown HG7.out hb.size (fun k hk => by cases hk; exact hlb)
            have hd0 := cell_below HB7 Hd0.out
            have hl0 : W5.cell? ⟨lb, 0, none⟩ = some (.slice (some ⟨b', o', none⟩) ps.length c) := cell_of_row _ _ 0 _ _ _ HH7.out
            go_wp2_with (go_at_call 82; refine (inner_c _ _).mono ?_; rintro e w' ⟨rfl, rfl⟩)
            go_roundw
            case rel => exact ⟨m + 1, by omega, by go_num, by unfold Hid; rw [Hsn.out]; exact HO7.out, HG7, HH7⟩
            case measure => simp [intOf]; try omega
        · obtain rfl : m = kl := by omega
          have HS2 : Hid (scopesF ps scope = (List.range i).reverse.foldl (scopeStep ps) (scopeKids bv (p.kids.take m) out)) := by
            unfold Hid
            rw [HS.out, scopes_next Hget.out, Hoi.out, Hbv.out, ← Hkl.out, List.take_length]
          have HL : Hid ((scopeKids bv (p.kids.take m) out).length = ps.length) := Lib.hid (by rw [scopeKids_len]; exact Hol.out)
          have HR : Hid (∀ x ∈ scopeKids bv (p.kids.take m) out, R64 x) := Lib.hid (scopeKids_r _ (by rw [← Hbv.out]; split; exact ⟨by omega, by omega⟩; exact hoR) _ _ Hob.out)
          go_wp2
          go_roundw
          case rel => exact ⟨i, _, by omega, by go_num, HL, HR, HOQ, HGQ, HHQ, HS2⟩
          case measure => simp [intOf]; try omega
end Go.Proofs.YtldnkeackphilaaGreatDoor
namespace Go.Proofs.YtldnkeackphilaaGreatDoor
open Go.RowKit Go.Extern.Stop Go.Stop Go.Extern

theorem Tryz.valueOf27 (t : Addr) (w : World) : (ReflectliteValue.unpack (.iface 116 (.pointer (some t)))).run Tryz.prog w
    = .ok (.agg #[.pointer (some ⟨4, 116, none⟩), .pointer (some ⟨w.heap.size, 0, none⟩), .int .u64 150]) (w.alloc (.cells #[.pointer (some t)] 116)) := by kernel_rfl
theorem Tryz.type27 (a : Addr) (w : World) : (ReflectliteValue.methodAny (ReflectliteValue.valueError "reflectlite.Value.Type" 0) (fun t _ _ _ => ReflectliteType.toType t) #[.agg #[.pointer (some ⟨4, 116, none⟩), .pointer (some a), .int .u64 150]]).run Tryz.prog w
    = .ok (.iface 240 (.agg #[.pointer (some ⟨4, 116, none⟩)])) w := by kernel_rfl
theorem Tryz.methodKind (h : Value) (w : World) : (Go.method 526 240 (.agg #[h]) "Kind").run Tryz.prog w = .ok (275, h) w := by kernel_rfl
theorem Tryz.kind27 (w : World) : ((ReflectliteType.abiMethod fun t => (fun a : Nat => Value.int IntKind.u8 (a : Int)) <$> Rtype.kind t) #[.pointer (some ⟨4, 116, none⟩)]).run Tryz.prog w = .ok (.int .u8 22) w := by kernel_rfl
theorem Tryz.kind25 (w : World) : ((ReflectliteType.abiMethod fun t => (fun a : Nat => Value.int IntKind.u8 (a : Int)) <$> Rtype.kind t) #[.pointer (some ⟨4, 114, none⟩)]).run Tryz.prog w = .ok (.int .u8 22) w := by kernel_rfl

theorem rlm (z : Sem Value) (f : TypeId → Addr → Nat → Nat → Sem Value) (v : Value) :
    ReflectliteValue.method z f #[v] = (do match ← ReflectliteValue.parts v with | none => z | some (t, a, fl) => f t a fl (fl % 32)) := rfl
theorem Tryz.parts27 (a : Addr) (w : World) : (ReflectliteValue.parts (.agg #[.pointer (some ⟨4, 116, none⟩), .pointer (some a), .int .u64 150])).run Tryz.prog w = .ok (some (116, a, 150)) w := by kernel_rfl
theorem Tryz.isNil27 (a p : Addr) (W : World) (ha : W.cell? a = some (.pointer (some p))) :
    (ReflectliteValue.method (ReflectliteValue.valueError "reflectlite.Value.IsNil" 0) ReflectliteValue.isNil #[.agg #[.pointer (some ⟨4, 116, none⟩), .pointer (some a), .int .u64 150]]).run Tryz.prog W = .ok (.bool false) W := by
  rw [rlm]
  simp only [Sem.run_bind, Tryz.parts27, Result.andThen]
  simp [ReflectliteValue.isNil, loadVar, isAgg, underlying, Tryz.underlying116, ha, Result.andThen]

theorem Tryz.methodElem (h : Value) (w : World) : (Go.method 526 240 (.agg #[h]) "Elem").run Tryz.prog w = .ok (288, .agg #[h]) w := by kernel_rfl
theorem Tryz.methodImplements (h : Value) (w : World) : (Go.method 526 240 (.agg #[h]) "Implements").run Tryz.prog w = .ok (289, .agg #[h]) w := by kernel_rfl
theorem Tryz.methodAssignableTo (h : Value) (w : World) : (Go.method 526 240 (.agg #[h]) "AssignableTo").run Tryz.prog w = .ok (286, .agg #[h]) w := by kernel_rfl
theorem Tryz.elem27 (w : World) : (ReflectliteType.method ReflectliteType.elem #[.agg #[.pointer (some ⟨4, 116, none⟩)]]).run Tryz.prog w = .ok (.iface 240 (.agg #[.pointer (some ⟨4, 114, none⟩)])) w := by kernel_rfl
theorem Tryz.implements25 (w : World) : (ReflectliteType.relation "Implements" ReflectliteType.implements_ #[.agg #[.pointer (some ⟨4, 114, none⟩)], .iface 240 (.agg #[.pointer (some ⟨4, 44, none⟩)])]).run Tryz.prog w = .ok (.bool true) w := by kernel_rfl
theorem Tryz.typeOf25 (v : Value) (w : World) : (ReflectliteType.typeOf #[.iface 114 v]).run Tryz.prog w = .ok (.iface 240 (.agg #[.pointer (some ⟨4, 114, none⟩)])) w := by kernel_rfl
theorem Tryz.assignable25 (w : World) : (ReflectliteType.relation "AssignableTo" ReflectliteType.assignableTo #[.agg #[.pointer (some ⟨4, 114, none⟩)], .iface 240 (.agg #[.pointer (some ⟨4, 114, none⟩)])]).run Tryz.prog w = .ok (.bool true) w := by kernel_rfl
theorem Tryz.valueOf25 (e : Addr) (w : World) : (ReflectliteValue.unpack (.iface 114 (.pointer (some e)))).run Tryz.prog w
    = .ok (.agg #[.pointer (some ⟨4, 114, none⟩), .pointer (some ⟨w.heap.size, 0, none⟩), .int .u64 150]) (w.alloc (.cells #[.pointer (some e)] 114)) := by kernel_rfl

theorem Tryz.elemOf27 (w : World) : (Rtype.elem? 116).run Tryz.prog w = .ok (some 114) w := by kernel_rfl
theorem Tryz.mk25 (p : Addr) (w : World) : (ReflectliteValue.mk 114 p ReflectliteValue.flagAddr).run Tryz.prog w = .ok (.agg #[.pointer (some ⟨4, 114, none⟩), .pointer (some p), .int .u64 406]) w := by kernel_rfl
theorem Tryz.elemV27 (a p : Addr) (W : World) (ha : W.cell? a = some (.pointer (some p))) :
    (ReflectliteValue.method (ReflectliteValue.valueError "reflectlite.Value.Elem" 0) ReflectliteValue.elem #[.agg #[.pointer (some ⟨4, 116, none⟩), .pointer (some a), .int .u64 150]]).run Tryz.prog W
      = .ok (.agg #[.pointer (some ⟨4, 114, none⟩), .pointer (some p), .int .u64 406]) W := by
  rw [rlm]
  simp only [Sem.run_bind, Tryz.parts27, Result.andThen]
  simp [ReflectliteValue.elem, loadVar, isAgg, underlying, Tryz.underlying116, ha, Result.andThen, Tryz.elemOf27, Tryz.mk25]
theorem rls (v x : Value) : ReflectliteValue.set #[v, x] = (do
    let (some (dst, a, fl), some (src, b, _)) := (← ReflectliteValue.parts v, ← ReflectliteValue.parts x)
      | unsupported (.noEntry "extern/(internal/reflectlite.Value).Set.zeroValue")
    if fl / ReflectliteValue.flagAddr % 2 == 0 then unsupported (.noEntry "extern/(internal/reflectlite.Value).Set.unaddressable")
    let val ← loadVar src b
    if ← Rtype.directlyAssignable dst src then storeVar dst a val
    else if ← Rtype.implements dst src then
      if (← Rtype.kind src) == 20 then
        match val with
        | .nilIface => unsupported (.noEntry "extern/reflectlite: a nil value of one interface type handed on as a value of another")
        | _ => storeVar dst a val
      else storeVar dst a (.iface src val)
    else panicString ("reflectlite.Set: value of type " ++ (← Rtype.spelt src) ++ " is not assignable to type " ++ (← Rtype.spelt dst))
    pure (.tuple #[])) := rfl
theorem Tryz.parts25a (a : Addr) (w : World) : (ReflectliteValue.parts (.agg #[.pointer (some ⟨4, 114, none⟩), .pointer (some a), .int .u64 406])).run Tryz.prog w = .ok (some (114, a, 406)) w := by kernel_rfl
theorem Tryz.parts25 (a : Addr) (w : World) : (ReflectliteValue.parts (.agg #[.pointer (some ⟨4, 114, none⟩), .pointer (some a), .int .u64 150])).run Tryz.prog w = .ok (some (114, a, 150)) w := by kernel_rfl
theorem Tryz.direct25 (w : World) : (Rtype.directlyAssignable 114 114).run Tryz.prog w = .ok true w := by kernel_rfl
theorem Tryz.set25 (ta b e : Addr) (old : Value) (W : World) (hb : W.cell? b = some (.pointer (some e))) (ht : W.cell? ta = some old) (hf : W.frozen? ta = false) :
    (ReflectliteValue.set #[.agg #[.pointer (some ⟨4, 114, none⟩), .pointer (some ta), .int .u64 406], .agg #[.pointer (some ⟨4, 114, none⟩), .pointer (some b), .int .u64 150]]).run Tryz.prog W
      = .ok (.tuple #[]) (W.setCell ta (.pointer (some e))) := by
  rw [rls]
  simp only [Sem.run_bind, Tryz.parts25a, Tryz.parts25, Result.andThen]
  simp [ReflectliteValue.flagAddr, loadVar, isAgg, underlying, Tryz.underlying114, hb, Result.andThen, Tryz.direct25, storeVar, Value.cells, storeCells, Addr.add]
  rw [run_store Tryz.prog W ta _ _ (by rfl)]
  simp [ht, hf]

set_option maxRecDepth 100000 in
set_option maxHeartbeats 4000000 in
theorem as_hit (e t : Addr) (old : Value) (w : World) (hg : w.cell? ⟨0, 0, none⟩ = some (.iface 240 (.agg #[.pointer (some ⟨4, 44, none⟩)]))) (ht0 : w.cell? t = some old) (hf0 : w.frozen? t = false) :
    Calls Tryz.prog 43 #[.iface 114 (.pointer (some e)), .iface 116 (.pointer (some t))] w fun ev w' => ev = .returned (.bool true) ∧ w' = ((((w.alloc (.cells #[.pointer (some t)] 116)).alloc (.cells #[.pointer (some ⟨4, 116, none⟩), .pointer (some ⟨w.heap.size, 0, none⟩), .int .u64 150] 183)).alloc (.cells #[.pointer (some ⟨4, 116, none⟩), .pointer (some ⟨w.heap.size, 0, none⟩), .int .u64 150] 183)).alloc (.cells #[.pointer (some e)] 114)).setCell t (.pointer (some e)) := by
  have h6 := @run_callFunc_extern Tryz.prog 75 _ (fun args => ReflectliteValue.unpack (args.getD 0 (.tuple #[]))) Tryz.func75 (by kernel_rfl) (by kernel_rfl) (by kernel_rfl) (by kernel_rfl)
  have h7 := @run_callFunc_extern Tryz.prog 76 _ (ReflectliteValue.methodAny (ReflectliteValue.valueError "reflectlite.Value.Type" 0) (fun t _ _ _ => ReflectliteType.toType t)) Tryz.func76 (by kernel_rfl) (by kernel_rfl) (by kernel_rfl) (by kernel_rfl)
  have h8 := @run_callFunc_extern Tryz.prog 77 _ (ReflectliteValue.method (ReflectliteValue.valueError "reflectlite.Value.IsNil" 0) ReflectliteValue.isNil) Tryz.func77 (by kernel_rfl) (by kernel_rfl) (by kernel_rfl) (by kernel_rfl)
  have h27 := @run_callFunc_extern Tryz.prog 275 _ (ReflectliteType.abiMethod fun t => do pure (.int .u8 (← Rtype.kind t))) Tryz.func275 (by kernel_rfl) (by kernel_rfl) (by kernel_rfl) (by kernel_rfl)
  have h37 := @run_callFunc_extern Tryz.prog 288 _ (ReflectliteType.method ReflectliteType.elem) Tryz.func288 (by kernel_rfl) (by kernel_rfl) (by kernel_rfl) (by kernel_rfl)
  have h38 := @run_callFunc_extern Tryz.prog 289 _ (ReflectliteType.relation "Implements" ReflectliteType.implements_) Tryz.func289 (by kernel_rfl) (by kernel_rfl) (by kernel_rfl) (by kernel_rfl)
  have h10 := @run_callFunc_extern Tryz.prog 125 _ ReflectliteType.typeOf Tryz.func125 (by kernel_rfl) (by kernel_rfl) (by kernel_rfl) (by kernel_rfl)
  have h35 := @run_callFunc_extern Tryz.prog 286 _ (ReflectliteType.relation "AssignableTo" ReflectliteType.assignableTo) Tryz.func286 (by kernel_rfl) (by kernel_rfl) (by kernel_rfl) (by kernel_rfl)
  have h11 := @run_callFunc_extern Tryz.prog 126 _ (ReflectliteValue.method (ReflectliteValue.valueError "reflectlite.Value.Elem" 0) ReflectliteValue.elem) Tryz.func126 (by kernel_rfl) (by kernel_rfl) (by kernel_rfl) (by kernel_rfl)
  have h12 := @run_callFunc_extern Tryz.prog 127 _ ReflectliteValue.set Tryz.func127 (by kernel_rfl) (by kernel_rfl) (by kernel_rfl) (by kernel_rfl)
  have tO := Tryz.typeOf25
  have mA := Tryz.methodAssignableTo
  have a25 := Tryz.assignable25
  have v25 := Tryz.valueOf25
  have f6 := Tryz.valueOf27
  have f7 := Tryz.type27
  have mK := Tryz.methodKind
  have mE := Tryz.methodElem
  have mI := Tryz.methodImplements
  have k27 := Tryz.kind27
  have k25 := Tryz.kind25
  have e27 := Tryz.elem27
  have i25 := Tryz.implements25
  have n8 := Tryz.isNil27 ⟨w.heap.size, 0, none⟩ t ((w.alloc (.cells #[.pointer (some t)] 116)).alloc (.cells #[.pointer (some ⟨4, 116, none⟩), .pointer (some ⟨w.heap.size, 0, none⟩), .int .u64 150] 183)) (by simp)
  have hlt : 0 < w.heap.size := by
    rcases Nat.eq_zero_or_pos w.heap.size with h0 | h
    · simp [World.cell?, h0] at hg
    · exact h
  have hg2 : ((w.alloc (.cells #[.pointer (some t)] 116)).alloc (.cells #[.pointer (some ⟨4, 116, none⟩), .pointer (some ⟨w.heap.size, 0, none⟩), .int .u64 150] 183)).cell? ⟨0, 0, none⟩ = some (.iface 240 (.agg #[.pointer (some ⟨4, 44, none⟩)])) := by
    rw [World.cell?_alloc_lt _ _ ⟨0, 0, none⟩ (by simp), World.cell?_alloc_lt _ _ ⟨0, 0, none⟩ hlt]; exact hg
  have htl : t.block < w.heap.size := by
    rcases Nat.lt_or_ge t.block w.heap.size with h | h
    · exact h
    · simp [World.cell?, Array.getElem?_eq_none h] at ht0
  have el := Tryz.elemV27 ⟨w.heap.size, 0, none⟩ t (((w.alloc (.cells #[.pointer (some t)] 116)).alloc (.cells #[.pointer (some ⟨4, 116, none⟩), .pointer (some ⟨w.heap.size, 0, none⟩), .int .u64 150] 183)).alloc (.cells #[.pointer (some ⟨4, 116, none⟩), .pointer (some ⟨w.heap.size, 0, none⟩), .int .u64 150] 183)) (by rw [World.cell?_alloc_lt _ _ ⟨w.heap.size, 0, none⟩ (by simp; omega)]; simp)
  have st := Tryz.set25 t ⟨w.heap.size + 1 + 1 + 1, 0, none⟩ e old ((((w.alloc (.cells #[.pointer (some t)] 116)).alloc (.cells #[.pointer (some ⟨4, 116, none⟩), .pointer (some ⟨w.heap.size, 0, none⟩), .int .u64 150] 183)).alloc (.cells #[.pointer (some ⟨4, 116, none⟩), .pointer (some ⟨w.heap.size, 0, none⟩), .int .u64 150] 183)).alloc (.cells #[.pointer (some e)] 114))
    (by rw [World.cell?_alloc_at _ _ _ _ (by simp)]; rfl)
    (by rw [World.cell?_alloc_lt _ _ t (by simp; omega), World.cell?_alloc_lt _ _ t (by simp; omega), World.cell?_alloc_lt _ _ t (by simp; omega), World.cell?_alloc_lt _ _ t htl]; exact ht0)
    (by rw [World.frozen?_alloc_old _ _ t (by simp; omega), World.frozen?_alloc_old _ _ t (by simp; omega), World.frozen?_alloc_old _ _ t (by simp; omega), World.frozen?_alloc_old _ _ t (Nat.ne_of_lt htl)]; exact hf0)
  go_enter Tryz.func43, Tryz.ntmps43
  go_wp2
  refine wp_loop_rounds 1 ?_
  rw [rounds_succ]
  go_wp2
  go_ret
  exact ⟨rfl, rfl⟩
end Go.Proofs.YtldnkeackphilaaGreatDoor
