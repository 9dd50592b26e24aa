/- slices.Sort and slices.Compact on lent rows, as contracts of the linear calculus. -/
import Derived.Test.YtldnkeackphilaaGreatDoorNs19
import Derived.Test.YtldnkeackphilaaGreatDoorNs21
import Derived.Test.YtldnkeackphilaaGreatDoorNs28
import Derived.Test.YtldnkeackphilaaGreatDoorNs25
import Derived.Test.YtldnkeackphilaaGreatDoorNs26
import Derived.Test.YtldnkeackphilaaGreatDoorNs27
set_option linter.unusedSimpArgs false
set_option linter.unusedVariables false
namespace Go.Proofs.YtldnkeackphilaaGreatDoor.X
open Go.RowKit Go.Sort

set_option linter.unusedSectionVars false
section
variable {α : Type} {f : α → Value} {P : Program} {G : Gh} {ν : Nu} {w w' : World} {n : Nat} {E : TypeId} {v : Value}
theorem own_of_row {es : List α} (hsz : szP P E = 1) (hB : BlkR P G ν w n (.row E (es.map fun x => [.imm (f x)]))) (hv : RN G ν v (.rw n 0 es.length)) : OwnF f E w 0 v es ∧ v.ownBlock = blkOf ν n := by
  obtain ⟨-, hB⟩ := hB
  rcases hB with ⟨cap, h1, h2⟩ | ⟨g, cap, h1, -, h3, h4, vs, h5, h6, h7⟩
  · have h0 : es = [] := by simpa using h2
    subst h0
    rcases hv.rwI with ⟨cap', sz, q1, rfl, -, -⟩ | ⟨g, cap', sz, o, q1, -, -, -⟩
    · exact ⟨⟨rfl, .inl ⟨rfl, rfl⟩⟩, by simp [Value.ownBlock, blkOf, h1]⟩
    · rw [h1] at q1; cases q1
  · rcases hv.rwI with ⟨cap', sz, q1, -, -, -⟩ | ⟨g', cap', sz, o, q1, rfl, q3, q4⟩
    · rw [h1] at q1; cases q1
    · rw [h1] at q1
      cases q1
      obtain rfl : o = 0 := by simpa using q4 (.inr rfl)
      rw [hsz, Nat.mul_one] at h6
      have hl : es.length ≤ cap := by simpa using h3
      refine ⟨⟨by simp, .inr ⟨g, cap, vs, by simp, Nat.zero_le _, h5, hl, h4, by simpa using h6, ?_⟩⟩, by simp [Value.ownBlock, blkOf, h1]⟩
      rw [Nat.mul_one]
      refine List.ext_getElem? fun j => ?_
      by_cases hj : j < es.length
      · rw [List.getElem?_take_of_lt hj, Array.getElem?_toList, List.getElem?_map, List.getElem?_eq_getElem hj]
        have hv : vs[j]? = some vs[j] := Array.getElem?_eq_getElem (by omega)
        have hf : (es.map fun x => [AV.imm (f x)]).flatten[j]? = some (.imm (f es[j])) := by
          have := flat_get (sz := 1) (es := es.map fun x => [AV.imm (f x)]) (i := j) (j := 0) (e := [AV.imm (f es[j])]) (a := .imm (f es[j])) (by simp) (by simp [hj]) rfl
          simpa using this
        obtain ⟨-, hr⟩ := h7 j _ _ hv hf
        rw [hv]
        exact congrArg some (RN.immI (ν := ν) (.sh hr)).1
      · rw [List.getElem?_take_eq_none (by omega), List.getElem?_eq_none (by simp; omega)]
theorem row_of_own {es : List α} (hsz : szP P E = 1) (h1c : ∀ x, (f x).oneCell' = true) {g : Nat} (hG : ∀ i a, ¬ G g i a) {cap : Nat} (hn : ν n = some ⟨some g, cap, 1⟩) (h : OwnF f E w' 0 (.slice (some ⟨g, 0, none⟩) es.length cap) es) :
    BlkR P G ν w' n (.row E (es.map fun x => [.imm (f x)])) ∧ RN G ν (.slice (some ⟨g, 0, none⟩) es.length cap) (.rw n 0 es.length) := by
  rcases h.2 with ⟨h', -⟩ | ⟨g', cap', cur, h', -, hh, k1, k2, k3, k4⟩
  · cases h'
  · cases h'
    refine ⟨⟨by simp [hsz], .inr ⟨g, cap, by rw [hsz]; exact hn, hG, by simpa using k1, k2, cur, hh, by rw [hsz]; exact k3, fun j v a hv ha => ?_⟩⟩, .rw n 0 es.length g cap 1 0 hn (by omega) (fun _ => rfl)⟩
    obtain ⟨i, e, j', q1, q2, rfl⟩ := flat_inv (sz := 1) (by simp) ha
    rw [List.getElem?_map] at q1
    obtain ⟨x, q3, rfl⟩ := Option.map_eq_some_iff.1 q1
    have hil : i < es.length := (List.getElem?_eq_some_iff.1 q3).1
    obtain rfl : j' = 0 := by
      have := (List.getElem?_eq_some_iff.1 q2).1
      simpa using this
    cases q2
    rw [Nat.mul_one, Nat.add_zero] at hv
    have := congrArg (fun l : List Value => l[i]?) k4
    simp only [Nat.mul_one, List.getElem?_take_of_lt hil, Array.getElem?_toList, hv, List.getElem?_map, q3, Option.map_some, Option.some.injEq] at this
    subst this
    exact ⟨h1c x, .imm _ (h1c x)⟩
theorem hs_row {fn : Func} {c : Code} {fid : FuncId} {es es' : List α} (hf : P.funcs[fid]? = some fn) (hb : fn.body = some c) (hnm : (fn.name == "runtime.NumGoroutine") = false) (hsz : szP P E = 1) (h1c : ∀ x, (f x).oneCell' = true) (hlen : es'.length ≤ es.length)
    (res : AV) (hres : res = .tup [] ∧ es'.length = es.length ∨ res = .rw 1000 0 es'.length)
    (h : ∀ w v, OwnF f E w 0 v es → Calls P fid #[v] w fun e w' => ∃ v', e = .returned (if res.whole = false then .tuple #[] else v') ∧ OwnF f E w' 0 v' es' ∧ w.grownBy w' v.ownBlock ∧ (v = .slice none 0 0 → v' = .slice none 0 0) ∧ ∀ A k cap, v = .slice (some A) k cap → v' = .slice (some A) es'.length cap) :
    Hs P fid [.rw 1000 0 es.length] [(1000, .row E (es.map fun x => [.imm (f x)]))] res [1000] [(1000, .row E (es'.map fun x => [.imm (f x)]))] := by
  refine ⟨fun vals w => enters_of hf hb hnm vals w, fun G ν w vals hc hB hinj hno hl hv => ?_⟩
  obtain ⟨l⟩ := vals
  match l, hl with
  | [v], _ =>
    have hB := hB _ (List.mem_singleton.2 rfl)
    have hr := hv 0 v _ rfl rfl
    obtain ⟨h1, h2⟩ := own_of_row hsz hB hr
    refine (h w v h1).mono ?_
    rintro e w' ⟨v', rfl, k1, k2, k3, k4⟩
    have hcells : CellsR G w' := by
      refine cells_old hc fun g ⟨i, a, hg⟩ => ?_
      refine k2.block g (ghost_lt hc hg) ?_
      intro e
      obtain ⟨-, hB⟩ := hB
      rcases hB with ⟨cap, b1, -⟩ | ⟨g', cap, b1, b2, -⟩
      · rw [h2] at e; simp [blkOf, b1] at e
      · rw [h2] at e
        simp [blkOf, b1] at e
        subst e
        exact b2 i a hg
    have hrow : BlkR P G ν w' 1000 (.row E (es'.map fun x => [.imm (f x)])) ∧ RN G ν v' (.rw 1000 0 es'.length) := by
      obtain ⟨b0, hB⟩ := hB
      rcases hr.rwI with ⟨cap, sz, q1, rfl, -, q2⟩ | ⟨g, cap, sz, o, q1, rfl, q3, q4⟩
      · have e0 : es' = [] := List.eq_nil_of_length_eq_zero (by omega)
        subst e0
        rw [k3 rfl]
        rcases hB with ⟨cap', b1, -⟩ | ⟨g', cap', b1, -⟩
        · exact ⟨⟨by simp, .inl ⟨cap', b1, rfl⟩⟩, .rw0 _ _ _ b1⟩
        · rw [b1] at q1; cases q1
      · rcases hB with ⟨cap', b1, -⟩ | ⟨g', cap', b1, b2, -⟩
        · rw [b1] at q1; cases q1
        · rw [b1] at q1
          cases q1
          rw [hsz] at b1
          obtain rfl : o = 0 := by simpa using q4 (.inr rfl)
          rw [k4 _ _ _ rfl] at k1 ⊢
          exact row_of_own hsz h1c b2 b1 k1
    refine ⟨_, G, ν, rfl, hcells, ?_, fun p hp => (List.mem_singleton.1 hp) ▸ hrow.1, fun p hp q hq g _ _ => by rw [List.mem_singleton.1 hp, List.mem_singleton.1 hq], fun n _ => rfl, fun p hp g hg => .inr ⟨_, List.mem_singleton.2 rfl, by rw [List.mem_singleton.1 hp] at hg; exact hg⟩, ⟨k2.os, k2.tape, k2.output, k2.size, .refl _, fun g hg hF => ⟨k2.block g hg fun e => hF ⟨_, List.mem_singleton.2 rfl, by rw [← h2]; exact e.symm⟩, rfl⟩⟩⟩
    rcases hres with ⟨rfl, -⟩ | rfl
    · exact .sh (.tup _ _ rfl fun j v a h => by simp at h)
    · exact hrow.2
end
theorem len_one (E : TypeId) (h : (Tryz.prog.info? E).map (·.size) = some 1) : szP Tryz.prog E = 1 := by simp [szP, h]
theorem sortI_h (es : List Int) (hl : es.length < 4611686018427387904) : Hs Tryz.prog 105 [.rw 1000 0 es.length] [(1000, .row 3 (es.map fun x => [iA x]))] (.tup []) [1000] [(1000, .row 3 ((sortedI es).map fun x => [iA x]))] := by
  have hlen : (sortedI es).length = es.length := by simp [sortedI]
  refine hs_row (f := fun x => .int .i64 x) Tryz.func105 rfl rfl (len_one _ (by kernel_rfl)) (fun _ => rfl) (Nat.le_of_eq hlen) _ (.inl ⟨rfl, hlen⟩) fun w v h => (sortI_c w 0 v es h hl).mono ?_
  rintro e w' ⟨rfl, h1, h2⟩
  exact ⟨v, rfl, h1, h2, id, fun A k cap e => by
    subst e
    rcases h.2 with ⟨e, -⟩ | ⟨g, c, cur, e, -⟩ <;> cases e
    rw [hlen]⟩
theorem compactI_h (es : List Int) : Hs Tryz.prog 107 [.rw 1000 0 es.length] [(1000, .row 3 (es.map fun x => [iA x]))] (.rw 1000 0 (Lib.compact es).length) [1000] [(1000, .row 3 ((Lib.compact es).map fun x => [iA x]))] := by
  refine hs_row (f := fun x => .int .i64 x) Tryz.func107 rfl rfl (len_one _ (by kernel_rfl)) (fun _ => rfl) (compact_le es) _ (.inr rfl) fun w v h => ?_
  rcases own_cases h with ⟨rfl, rfl⟩ | ⟨g, cap, rfl, hg, h1, h2⟩
  · refine (Tryz.slices_Compact_int_empty none 0 w).mono ?_
    rintro e w' ⟨rfl, rfl⟩
    exact ⟨_, rfl, h, World.grownBy.refl _ _, id, fun A k cap e => by cases e⟩
  · have hle : (Lib.compact es).length ≤ es.length := compact_le es
    refine (Tryz.slices_Compact_int g 0 cap es w (own_holds h) (by omega) h1).mono ?_
    rintro e w' ⟨rfl, q, rfl⟩
    have hh := own_put (q := q) (os := #[]) (d := Lib.compact es ++ List.replicate (es.length - (Lib.compact es).length) 0) h (by simp; omega) (Lib.compact es).length (by simp)
    rw [grow_none, List.take_left] at hh
    exact ⟨_, rfl, hh.1, hh.2, fun e => by (cases e), fun A k cap e => by (cases e; rfl)⟩
theorem sortS_h (es : List ByteArray) (hl : es.length < 4611686018427387904) : Hs Tryz.prog 106 [.rw 1000 0 es.length] [(1000, .row 9 (es.map fun x => [sA x]))] (.tup []) [1000] [(1000, .row 9 ((sortedS es).map fun x => [sA x]))] := by
  have hlen : (sortedS es).length = es.length := by simp [sortedS, textsL, bytesL]
  refine hs_row (f := fun x => .string x) Tryz.func106 rfl rfl (len_one _ (by kernel_rfl)) (fun _ => rfl) (Nat.le_of_eq hlen) _ (.inl ⟨rfl, hlen⟩) fun w v h => (sortS_c w 0 v es h hl).mono ?_
  rintro e w' ⟨rfl, h1, h2⟩
  exact ⟨v, rfl, h1, h2, id, fun A k cap e => by
    subst e
    rcases h.2 with ⟨e, -⟩ | ⟨g, c, cur, e, -⟩ <;> cases e
    rw [hlen]⟩
theorem compactS_h (es : List ByteArray) : Hs Tryz.prog 108 [.rw 1000 0 es.length] [(1000, .row 9 (es.map fun x => [sA x]))] (.rw 1000 0 (compactS es).length) [1000] [(1000, .row 9 ((compactS es).map fun x => [sA x]))] := by
  have hle : (Lib.compact (bytesL es)).length ≤ (bytesL es).length := compact_le (bytesL es)
  have hbl : (bytesL es).length = es.length := by simp [bytesL]
  have hcl : (compactS es).length = (Lib.compact (bytesL es)).length := by simp [compactS, textsL]
  refine hs_row (f := fun x => .string x) Tryz.func108 rfl rfl (len_one _ (by kernel_rfl)) (fun _ => rfl) (by omega) _ (.inr rfl) fun w v h => ?_
  have hb := own_bytes h
  rcases own_cases hb with ⟨rfl, h0⟩ | ⟨g, cap, rfl, hg, h1, h2⟩
  · obtain rfl : es = [] := by simpa [bytesL] using h0
    refine (Tryz.slices_Compact_string_empty none 0 w).mono ?_
    rintro e w' ⟨rfl, rfl⟩
    exact ⟨_, rfl, h, World.grownBy.refl _ _, id, fun A k cap e => by cases e⟩
  · refine (Tryz.slices_Compact_string g 0 cap (bytesL es) w (own_holds hb) (by omega) h1).mono ?_
    rintro e w' ⟨rfl, q, rfl⟩
    have hh := own_put (q := q) (os := #[]) (d := Lib.compact (bytesL es) ++ List.replicate ((bytesL es).length - (Lib.compact (bytesL es)).length) []) hb (by simp; omega) (Lib.compact (bytesL es)).length (by simp)
    rw [grow_none, List.take_left] at hh
    exact ⟨_, rfl, own_texts hh.1, hh.2, fun e => by (cases e), fun A k cap e => by (cases e; rw [hcl])⟩
end Go.Proofs.YtldnkeackphilaaGreatDoor.X
/- norm's functions by the linear calculus: member. -/

namespace Go.Proofs.YtldnkeackphilaaGreatDoor.X
open Go.RowKit

set_option maxRecDepth 8000
set_option maxHeartbeats 2000000 in
theorem member_keys (ps : List Part) (a b : Nat) (kind : Int) (text : ByteArray) (num : Int) (kids : List Int) (hp : ps[b]? = some ⟨kind, text, num, kids⟩) (s : Int) (x : OpdD)
    (hk : Has Tryz.prog 104 [mkA ps, iA a] (.agg (termCs (keyTermF x))) noTok) (hkd : kind = 16 ∨ kind = 17) (res : Tr)
    (hr : Hid (res = if kind = 16 then .lit { LitD.zero with kind := 4, term := keyTermF x, of_ := num } s none else .lit { LitD.zero with kind := 5, term := keyTermF x } s none)) :
    Has Tryz.prog 65 [mkA ps, iA a, iA b, iA s] (treeA res) noTok := by
  have hl : b < ps.length := (List.getElem?_eq_some_iff.1 hp).1
  have hg : ps[b] = ⟨kind, text, num, kids⟩ := by simpa [List.getElem?_eq_getElem hl] using hp
  refine fnX mixed ⟨[0, 1, 2, 3, 8, 9, 10, 11, 12, 14, 15, 16, 25, 26, 36, 55, 62, 63, 64, 65, 78, 96], [9, 10, 11, 15, 84, 91, 35, 43, 116], [(9, [9]), (11, [11]), (31, [9]), (35, [35]), (106, [11]), (107, [84]), (108, [84]), (109, [11]), (110, [91]), (111, [91]), (112, [11]), (113, [11])], [(26, [84, 91])], []⟩ Tryz.func65 rfl rfl rfl (by kernel_rfl) (by simp) ?_
  generalize keyTermF x = t at *
  obtain ⟨tk, ts, ty, tl⟩ := t
  rcases hkd with h | h <;> subst h
  · simp [psA, mkA, hg, hl, pCs, intsA]
    refine callP_of hk (by simp) (by simp [termCs]) ?_
    simp [termCs]
    refine callH_of [] [(2000, 35)] (literal_h { LitD.zero with kind := 4, term := ⟨tk, ts, ty, tl⟩, of_ := num } s) (by simp [litCs, LitD.zero, TermD.zero, noText, strsA, intsA]) (by simp) (by simp) ?_
    simp [treeCs, strsA, intsA]
    simp [hr.out, Tr.lit, tree_mk, treeCs, strsA, intsA, selA_none]
  · simp [psA, mkA, hg, hl, pCs, intsA]
    refine callP_of hk (by simp) (by simp [termCs]) ?_
    simp [termCs]
    refine callH_of [] [(2000, 43)] (literal_h { LitD.zero with kind := 5, term := ⟨tk, ts, ty, tl⟩ } s) (by simp [litCs, LitD.zero, TermD.zero, noText, strsA, intsA]) (by simp) (by simp) ?_
    simp [treeCs, strsA, intsA]
    simp [hr.out, Tr.lit, tree_mk, treeCs, strsA, intsA, selA_none]
set_option maxHeartbeats 4000000 in
theorem member_set (ps : List Part) (a b : Nat) (text : ByteArray) (num : Int) (kids : List Int) (hp : ps[b]? = some ⟨13, text, num, kids⟩) (s : Int) (x : OpdD) (o : Int → OpdD) (hlen : kids.length ≤ 1000)
    (hx : Has Tryz.prog 100 [mkA ps, iA a] (.agg x.cs) noTok) (hE : ∀ k ∈ kids, Has Tryz.prog 100 [mkA ps, iA k] (.agg (o k).cs) noTok) (res : Tr) (hr : Hid (res = memberX x (kids.map o) s)) :
    Has Tryz.prog 65 [mkA ps, iA a, iA b, iA s] (treeA res) noTok := by
  have hl : b < ps.length := (List.getElem?_eq_some_iff.1 hp).1
  have hg : ps[b] = ⟨13, text, num, kids⟩ := by simpa [List.getElem?_eq_getElem hl] using hp
  refine fnX mixed ⟨[0, 1, 2, 3, 8, 9, 10, 11, 12, 14, 15, 16, 25, 26, 36, 55, 62, 63, 64, 65, 78, 96], [9, 10, 11, 15, 83, 84, 90, 91, 35, 43, 116, 1084, 1091], [(9, [9]), (11, [11]), (31, [9]), (35, [35]), (106, [11]), (107, [1084]), (108, [1084]), (109, [11]), (110, [1091]), (111, [1091]), (112, [11]), (113, [11])], [(26, [1084, 1091])], []⟩ Tryz.func65 rfl rfl rfl (by kernel_rfl) (by simp) ?_
  simp [psA, mkA, hg, hl, pCs, intsA]
  refine callP_of hx (by simp) (by simp [OpdD.cs]) ?_
  simp [OpdD.cs]
  refine ⟨fun h0 => ?_, fun h0 h1 => ?_⟩
  · refine callP_of (truth_h false s) (by simp) (by simp) ?_
    simp [hr.out, memberX]
    rw [if_pos (by simpa using h0)]
  have hmx : res = if x.step = 0 then truthF ((kids.map o).any fun e => standsF x e 1) s else .lit { LitD.zero with kind := 1, term := x.term, texts := compactS (sortedS (textsOf (kids.map o))), nums := Lib.compact (sortedI (numsOf (kids.map o))) } s x.sel := by
    rw [hr.out, memberX, if_neg (by simp [h0, h1])]
  clear hr
  refine wF_loop [.cell 11 8 1084 3, .cell 11 7 1091 9] [.slot 10 10, .slot 11 11, .cell 11 8 1084, .cell 11 7 1091] [0, 3, 10, 11, 12, 62, 63, 64] (fun i : Nat => St.asc [(0, mkA ps), (3, iA s), (10, .ref 10 0), (11, .ref 11 0), (12, bA (((kids.take i).map o).any fun e => standsF x e 1)), (62, .sl (kids.map fun k => [iA k])), (63, iA kids.length), (64, iA i)]
    [(10, .box 210 x.cs), (11, .box 61 [iA 1, iA x.term.kind, iA x.term.side, sA x.term.key, iA x.term.sel, iA 0, iA 0, .rw 1091 0 (textsOf ((kids.take i).map o)).length, .rw 1084 0 (numsOf ((kids.take i).map o)).length, iA 0, iA 0, sA noText, iA 0, iA 0, sA noText, iA 0]), (1084, .row 3 ((numsOf ((kids.take i).map o)).map fun n => [iA n])), (1091, .row 9 ((textsOf ((kids.take i).map o)).map fun n => [sA n]))] [(10, true), (11, true), (1084, true), (1091, true)] false) (fun i => i ≤ kids.length) (fun i => kids.length - i) 0 _ (by simp) ?_ (by simp) ?_
  · simp [mkA, psA, OpdD.cs, textsOf, numsOf, noText]
  intro i hi
  by_cases h : i < kids.length
  · have hk : kids[i]? = some kids[i] := List.getElem?_eq_getElem h
    have hE1 := hE kids[i] (List.getElem_mem h)
    have htk : kids.take (i + 1) = kids.take i ++ [kids[i]] := by rw [List.take_add_one, hk]; rfl
    have hw1 : IntKind.i64.wrap ((i : Int) + 1) = (i : Int) + 1 := wrap64 (by omega) (by omega)
    obtain ⟨e, he⟩ : ∃ e, e = o kids[i] := ⟨_, rfl⟩
    obtain ⟨es, hes⟩ : ∃ es, es = (kids.take i).map o := ⟨_, rfl⟩
    have hes1 : (kids.take (i + 1)).map o = es ++ [e] := by rw [htk, List.map_append, ← hes, he]; rfl
    have hS := stands_h x e 1
    rw [← he] at hE1
    obtain ⟨k, ek⟩ : ∃ k, k = kids[i] := ⟨_, rfl⟩
    rw [← ek] at hk hE1
    have hnl : (numsOf es).length ≤ 1000 := by
      have h1 : (numsOf es).length ≤ es.length := by simp only [numsOf, List.length_map]; exact List.length_filter_le _ _
      have h2 : es.length = i := by rw [hes]; simp; omega
      omega
    have htl : (textsOf es).length ≤ 1000 := by
      have h1 : (textsOf es).length ≤ es.length := by simp only [textsOf, List.length_map]; exact List.length_filter_le _ _
      have h2 : es.length = i := by rw [hes]; simp; omega
      omega
    rw [← hes]
    obtain ⟨f, hf⟩ : ∃ f, f = es.any fun e => standsF x e 1 := ⟨_, rfl⟩
    rw [← hf]
    clear he ek
    obtain ⟨xs, xn, xt, xi, xm, xl⟩ := x
    obtain ⟨es_, en, et, ei, em, el⟩ := e
    simp only [OpdD.cs] at hE1 hS ⊢
    have hes2 : (kids.map o).take (i + 1) = es ++ [⟨es_, en, et, ei, em, el⟩] := by rw [← List.map_take]; exact hes1
    have htt : List.take (textsOf es).length ((textsOf es).map fun n => [sA n]) = (textsOf es).map fun n => [sA n] := List.take_of_length_le (by simp)
    have hnn : List.take (numsOf es).length ((numsOf es).map fun n => [iA n]) = (numsOf es).map fun n => [iA n] := List.take_of_length_le (by simp)
    cases f
    · cases en
      · simp [hk, h, mkA, psA, -getElem?_pos]
        refine callP_of hE1 (by simp) (by simp) ?_
        simp
        refine .inr (callP_of hS (by simp) (by simp) ?_)
        simp [hw1, htt]
        refine ⟨⟨by omega, by omega⟩, i + 1, ?_, by omega, by omega⟩
        simp [hes2, textsOf_snoc, numsOf_snoc, ← hf]
      · simp [hk, h, mkA, psA, -getElem?_pos]
        refine callP_of hE1 (by simp) (by simp) ?_
        simp
        refine .inr (callP_of hS (by simp) (by simp) ?_)
        simp [hw1, hnn]
        refine ⟨⟨by omega, by omega⟩, i + 1, ?_, by omega, by omega⟩
        simp [hes2, textsOf_snoc, numsOf_snoc, ← hf]
    · cases en
      · simp [hk, h, mkA, psA, -getElem?_pos]
        refine callP_of hE1 (by simp) (by simp) ?_
        simp
        refine .inr ?_
        simp [hw1, htt]
        refine ⟨⟨by omega, by omega⟩, i + 1, ?_, by omega, by omega⟩
        simp [hes2, textsOf_snoc, numsOf_snoc, ← hf]
      · simp [hk, h, mkA, psA, -getElem?_pos]
        refine callP_of hE1 (by simp) (by simp) ?_
        simp
        refine .inr ?_
        simp [hw1, hnn]
        refine ⟨⟨by omega, by omega⟩, i + 1, ?_, by omega, by omega⟩
        simp [hes2, textsOf_snoc, numsOf_snoc, ← hf]
  · obtain rfl : i = kids.length := by omega
    rw [List.take_length]
    obtain ⟨es, hes⟩ : ∃ es, es = kids.map o := ⟨_, rfl⟩
    rw [← hes] at hmx ⊢
    have hle : es.length ≤ 1000 := by rw [hes]; simpa using hlen
    have hnl : (numsOf es).length ≤ 1000 := by
      have h1 : (numsOf es).length ≤ es.length := by simp only [numsOf, List.length_map]; exact List.length_filter_le _ _
      omega
    have htl : (textsOf es).length ≤ 1000 := by
      have h1 : (textsOf es).length ≤ es.length := by simp only [textsOf, List.length_map]; exact List.length_filter_le _ _
      omega
    have l1 : (sortedI (numsOf es)).length = (numsOf es).length := by simp [sortedI]
    have l2 : (sortedS (textsOf es)).length = (textsOf es).length := by simp [sortedS, textsL, bytesL]
    have c1 := sortI_h (numsOf es) (by omega)
    have c2 := sortS_h (textsOf es) (by omega)
    have c3 := compactI_h (sortedI (numsOf es))
    have c4 := compactS_h (sortedS (textsOf es))
    have c5 := literal_h { LitD.zero with kind := 1, term := x.term, texts := compactS (sortedS (textsOf es)), nums := Lib.compact (sortedI (numsOf es)) } s
    generalize Lib.compact (sortedI (numsOf es)) = nx at *
    generalize compactS (sortedS (textsOf es)) = tx at *
    have htt : List.take tx.length (tx.map fun n => [sA n]) = tx.map fun n => [sA n] := List.take_of_length_le (by simp)
    have hnn : List.take nx.length (nx.map fun n => [iA n]) = nx.map fun n => [iA n] := List.take_of_length_le (by simp)
    simp [mkA, psA, OpdD.cs]
    refine ⟨fun hz => ?_, fun hz => ?_⟩
    · refine callP_of (truth_h (es.any fun e => standsF x e 1) s) (by simp) (by simp) ?_
      simp [hmx, hz]
    · refine callH_of [(1000, 1084)] [] c1 (by simp) (by simp) (by simp) ?_
      simp
      refine callH_of [(1000, 1091)] [] c2 (by simp) (by simp) (by simp) ?_
      simp
      refine callH_of [(1000, 1084)] [] c3 (by simp [l1]) (by simp) (by simp) ?_
      simp
      refine callH_of [(1000, 1091)] [] c4 (by simp [l2]) (by simp) (by simp) ?_
      simp [htt, hnn]
      refine callH_of [] [(2000, 116)] c5 (by simp [litCs, LitD.zero, TermD.zero, noText, strsA, intsA]) (by simp) (by simp) ?_
      simp [treeCs, strsA, intsA]
      rw [hmx, if_neg hz]
      simp [Tr.lit, tree_mk, treeCs, strsA, intsA]
end Go.Proofs.YtldnkeackphilaaGreatDoor.X
/- norm.Plan wherever layers 13 and 14 take the tree. -/
namespace Go.Proofs.YtldnkeackphilaaGreatDoor.X
open Go.RowKit

theorem mem_all (ps : List Part) (ht : TT ps) (n f : Nat) (hnf : n ≤ f) (H : CondC ps n) : MemC ps n f := by
  intro i p a b s hp h7 hin hk hs
  have hkd := ht.wf.kids i p hp
  have hil := (List.getElem?_eq_some_iff.1 hp).1
  have ha := hkd a (by simp [hk])
  have hb := hkd b (by simp [hk])
  have hpa : ps[a]? = some ps[a] := List.getElem?_eq_getElem (by omega)
  have hpb : ps[b]? = some ps[b] := List.getElem?_eq_getElem (by omega)
  obtain ⟨h1, h2⟩ := ht.mem i p hp h7
  simp only [hk, List.getD_cons_zero, List.getD_cons_succ, partAt_nat hpa, partAt_nat hpb] at h1 h2
  have hx := side_ops ps ht n f hnf H a (by omega) _ hpa h1
  have hcnt := ht.cnt b _ hpb
  have hkb : ∀ k ∈ ps[b].kids, ∃ (j : Nat) (q : Part), k = j ∧ j < b ∧ ps[j]? = some q ∧ kidFitsF ps[b].kind q.kind = true := fun k hk => kid_of ps ht.wf b _ hpb k hk
  generalize hq : ps[b] = q at *
  obtain ⟨kind, text, num, kids⟩ := q
  simp only at h2 hcnt hkb
  have hmF : memberF (condF ps f) ps a b s = if kind = 16 then .lit { LitD.zero with kind := 4, term := keyTermF (opdF (condF ps f) ps a), of_ := num } s none else if kind = 17 then .lit { LitD.zero with kind := 5, term := keyTermF (opdF (condF ps f) ps a) } s none else memberX (opdF (condF ps f) ps a) (kids.map (opdF (condF ps f) ps)) s := by
    unfold memberF
    rw [partAt_nat hpb]
  by_cases h16 : kind = 16 ∨ kind = 17
  · refine member_keys ps a b kind text num kids hpb s (opdF (condF ps f) ps a) (keyTerm_h ps a _ hx) h16 _ (Lib.hid ?_)
    rw [hmF]
    rcases h16 with h | h
    · rw [if_pos h, if_pos h]
    · rw [if_neg (by omega), if_pos h, if_neg (by omega)]
  · obtain rfl : kind = 13 := by omega
    refine member_set ps a b text num kids hpb s (opdF (condF ps f) ps a) (opdF (condF ps f) ps) hcnt hx (fun k hk => ?_) _ (Lib.hid ?_)
    · obtain ⟨j, q, rfl, h3, h4, h5⟩ := hkb k hk
      have h6 : q.kind = 11 ∨ q.kind = 12 := by simpa [kidFitsF] using h5
      exact side_ops ps ht n f hnf H j (by omega) _ h4 (by unfold sideK; omega)
    · rw [hmF, if_neg (by omega), if_neg (by omega)]
def planF (ps : List Part) : List PartD × List (List PartD) := writeT (condF ps ps.length ((ps.length - 1 : Nat) : Int) 0) [] []
theorem plan_good (ps : List Part) (scope : Int) (hsc : R64 scope) (hb : PB ps) (ts : List (Int × Int)) (hts : checkF ps scope = .inr ts) : Has Tryz.prog 13 [.agg [psA ps], iA scope] (.tup [.agg [partsA (planF ps).1, selsA (planF ps).2], iA 0]) noTok := by
  have ht := tt_of hts
  have hv := (typed_of hts).valid
  have hpos := ht.wf.pos
  have hp : ps[ps.length - 1]? = some ps[ps.length - 1] := List.getElem?_eq_getElem (by omega)
  have hl := ht.wf.last
  rw [kindAt_nat ps _ _ hp] at hl
  have hC := cond_all ps ht (fun n f h H => mem_all ps ht n f h H) ps.length (ps.length - 1) ps.length 0 _ hp hl (by omega) (by omega) (by omega)
  have hw := wt_whole hv 0
  have hc := cnt_wt (condF ps ps.length ((ps.length - 1 : Nat) : Int) 0)
  have hle := ht.wf.le
  have e : ((ps.length - 1 : Nat) : Int) = (ps.length : Int) - 1 := by omega
  refine plan_ok ps scope hsc hb hv ts hts (condF ps ps.length ((ps.length - 1 : Nat) : Int) 0) ?_ (by omega) _ rfl
  rw [e] at hC ⊢
  exact hC
end Go.Proofs.YtldnkeackphilaaGreatDoor.X
/- A tree in normal form, written down, in plain Lean. -/
namespace Go.Proofs.YtldnkeackphilaaGreatDoor.X

def scanF : List PartD → Nat → Option Nat
  | [], n => some n
  | p :: r, n => if (nextF p.lit n).2 then scanF r (if (nextF p.lit n).1 then n + 1 else n) else none
theorem scan_app : ∀ (a b : List PartD) (n : Nat), scanF (a ++ b) n = (scanF a n).bind (scanF b)
  | [], _, _ => rfl
  | p :: a, b, n => by
    rw [List.cons_append, scanF, scanF]
    split
    · exact scan_app a b _
    · rfl
theorem wtL_app (a b : List PartD) : wtL (a ++ b) = wtL a + wtL b := by simp [wtL]
structure WG (b : Bool) (T : Tr) (list : List PartD) (sels : List (List PartD)) (new : List PartD) (ns : List (List PartD)) : Prop where
  eq : writeT T list sels = (list ++ new, sels ++ ns)
  ne : new ≠ []
  st : ∀ p ∈ new, standP 1 p = true
  nc : T.kind ≠ 1 ∧ T.kind ≠ 2 → ∀ p ∈ new, p.kind ≠ 1 ∧ p.kind ≠ 2
  one : T.kind = 1 ∨ T.kind = 2 → new.length = 1
  scan : scanF new sels.length = some (sels.length + ns.length)
  wt : wtL new + (ns.map wtL).sum = wtT T
  al : ∀ l ∈ ns, aloneF l = true
  no : b = false → ns = []
  kl : (∀ p ∈ new, p.kids.length ≤ wtT T) ∧ ∀ l ∈ ns, ∀ p ∈ l, p.kids.length ≤ wtT T
theorem stand_n {p : PartD} (h : standP 1 p = true) (hc : p.kind ≠ 1 ∧ p.kind ≠ 2) (n : Nat) : standP n p = true := by
  have e : ¬((p.kind = 1 ∨ p.kind = 2) ∧ n > 1) := fun h => by omega
  have e1 : ¬((p.kind = 1 ∨ p.kind = 2) ∧ 1 > 1) := fun h => by omega
  simp only [standP, e, e1] at h ⊢
  exact h
theorem WG.alone {b : Bool} {T : Tr} {list : List PartD} {sels : List (List PartD)} {new : List PartD} {ns : List (List PartD)} (h : WG b T list sels new ns) : aloneF new = true := by
  refine List.all_eq_true.2 fun p hp => ?_
  by_cases hk : T.kind = 1 ∨ T.kind = 2
  · rw [h.one hk]; exact h.st p hp
  · exact stand_n (h.st p hp) (h.nc (by omega) p hp) _
theorem stand_mk (k : Int) (neg : Bool) (l : LitD) (ks : List Int) (h1 : neg = true → k = 5) (h2 : l.kind = 2 → l.rel = 4 ∨ l.rel = 6) (h3 : l.kind = 3 → l.rel ≠ 2) : standP 1 ⟨k, neg, l, ks⟩ = true := by
  have e1 : ¬((k = 1 ∨ k = 2) ∧ 1 > 1) := fun h => by omega
  have e2 : (neg && decide (k ≠ 5)) = false := by
    cases neg
    · rfl
    · simp [h1 rfl]
  have e3 : ¬(l.kind = 2 ∧ l.rel ≠ 4 ∧ l.rel ≠ 6) := fun h => by have := h2 h.1; omega
  have e4 : ¬(l.kind = 3 ∧ l.rel = 2) := fun h => h3 h.1 h.2
  simp only [standP, e1, e2, e3, e4]
  rfl
theorem at_kind (l : LitD) (n : Int) : (l.at_ n).kind = l.kind ∧ (l.at_ n).rel = l.rel ∧ (l.at_ n).texts = l.texts ∧ (l.at_ n).nums = l.nums := by
  unfold LitD.at_
  split <;> exact ⟨rfl, rfl, rfl, rfl⟩
theorem next_at (l : LitD) (n : Nat) (h : l.kind = 7 ∨ l.term.kind = 6) : nextF (l.at_ n) n = (true, true) := by
  unfold nextF LitD.at_
  by_cases h7 : l.kind = 7
  · simp [h7]
  · simp [h7, h.resolve_left h7]
theorem next_no (l : LitD) (n : Nat) (h : ¬(l.kind = 7 ∨ l.term.kind = 6)) : nextF l n = (false, true) := by
  unfold nextF
  rw [if_neg (fun e => h (.inl e)), if_neg (fun e => h (.inr e))]
structure WK (b : Bool) (l : List Tr) (list : List PartD) (sels : List (List PartD)) (at0 : List Int) (new : List PartD) (ns : List (List PartD)) (at1 : List Int) : Prop where
  eq : writeKs l list sels at0 = (list ++ new, sels ++ ns, at1)
  st : ∀ p ∈ new, standP 1 p = true
  nc : (∀ t ∈ l, t.kind ≠ 1 ∧ t.kind ≠ 2) → ∀ p ∈ new, p.kind ≠ 1 ∧ p.kind ≠ 2
  nil : l = [] → new = []
  scan : scanF new sels.length = some (sels.length + ns.length)
  wt : wtL new + (ns.map wtL).sum = wtKs l
  al : ∀ l ∈ ns, aloneF l = true
  no : b = false → ns = []
  kl : (∀ p ∈ new, p.kids.length ≤ wtKs l) ∧ ∀ x ∈ ns, ∀ p ∈ x, p.kids.length ≤ wtKs l
  an : at1.length = at0.length + l.length
theorem wtKs_len : ∀ l : List Tr, l.length ≤ wtKs l
  | [] => by simp [wtKs]
  | t :: r => by have := wtKs_len r; have := wt_pos t; simp only [wtKs, List.length_cons]; omega
theorem kids_good (b : Bool) : ∀ (l : List Tr), (∀ t ∈ l, ∀ list sels, ∃ new ns, WG b t list sels new ns) → ∀ list sels at0, ∃ new ns at1, WK b l list sels at0 new ns at1
  | [], _, list, sels, at0 => ⟨[], [], at0, by simp [writeKs], by simp, by simp, by simp, by simp [scanF], by simp [wtL, wtKs], by simp, by simp, by simp, by simp⟩
  | t :: r, h, list, sels, at0 => by
    obtain ⟨n1, s1, h1⟩ := h t (by simp) list sels
    obtain ⟨n2, s2, a2, h2⟩ := kids_good b r (fun u hu => h u (by simp [hu])) (list ++ n1) (sels ++ s1) (at0 ++ [((list ++ n1).length : Int) - 1])
    refine ⟨n1 ++ n2, s1 ++ s2, a2, ?_, ?_, ?_, by simp, ?_, ?_, ?_, ?_, ⟨?_, ?_⟩, ?_⟩
    · rw [writeKs]
      simp only [h1.eq, h2.eq, List.append_assoc]
    · exact fun p hp => (List.mem_append.1 hp).elim (h1.st p) (h2.st p)
    · exact fun hk p hp => (List.mem_append.1 hp).elim (h1.nc (hk t (by simp)) p) (h2.nc (fun u hu => hk u (by simp [hu])) p)
    · rw [scan_app, h1.scan]
      have := h2.scan
      rw [List.length_append] at this
      simp only [Option.bind_some, this, List.length_append]
      congr 1
      omega
    · have := h1.wt
      have := h2.wt
      rw [wtL_app, List.map_append, List.sum_append, wtKs]
      omega
    · exact fun l hl => (List.mem_append.1 hl).elim (h1.al l) (h2.al l)
    · exact fun hb => by rw [h1.no hb, h2.no hb]; rfl
    · exact fun p hp => by
        rw [wtKs]
        rcases List.mem_append.1 hp with hp | hp
        · have := h1.kl.1 p hp; omega
        · have := h2.kl.1 p hp; omega
    · exact fun x hx p hp => by
        rw [wtKs]
        rcases List.mem_append.1 hx with hx | hx
        · have := h1.kl.2 x hx p hp; omega
        · have := h2.kl.2 x hx p hp; omega
    · have := h2.an
      simp only [List.length_append, List.length_cons, List.length_nil] at this ⊢
      omega
theorem write_good {b : Bool} {T : Tr} (h : GoodT b T) : ∀ list sels, ∃ new ns, WG b T list sels new ns := by
  induction h with
  | mk b k neg l kids sel h1 h2 h3 h4 h5 h6 h7 h8 h9 ih7 ih9 =>
    intro list sels
    obtain ⟨n1, s1, a1, hk⟩ := kids_good b kids ih7 list sels []
    have hwl : ∀ (l' : LitD) (ks : List Int), l'.texts = l.texts → l'.nums = l.nums → wtL [⟨k, neg, l', ks⟩] = 1 + l.texts.length + l.nums.length := fun l' ks e1 e2 => by simp [wtL, partWt, e1, e2]
    have hone : k = 1 ∨ k = 2 → n1 = [] := fun hc => hk.nil (h6 hc).1
    have hnc : ∀ (l' : LitD) (ks : List Int), (Tr.mk k neg l kids sel).kind ≠ 1 ∧ (Tr.mk k neg l kids sel).kind ≠ 2 → ∀ p ∈ n1 ++ [⟨k, neg, l', ks⟩], p.kind ≠ 1 ∧ p.kind ≠ 2 := fun l' ks hc p hp => by
      rcases List.mem_append.1 hp with hp | hp
      · exact hk.nc h5 p hp
      · rw [List.mem_singleton.1 hp]; exact hc
    have hst : ∀ (l' : LitD) (ks : List Int), l'.kind = l.kind → l'.rel = l.rel → ∀ p ∈ n1 ++ [⟨k, neg, l', ks⟩], standP 1 p = true := fun l' ks e1 e2 p hp => by
      rcases List.mem_append.1 hp with hp | hp
      · exact hk.st p hp
      · rw [List.mem_singleton.1 hp]; exact stand_mk k neg l' ks h1 (by rw [e1, e2]; exact h2) (by rw [e1, e2]; exact h3)
    have hkl : ∀ (l' : LitD), ∀ p ∈ n1 ++ [⟨k, neg, l', a1⟩], p.kids.length ≤ wtT (.mk k neg l kids sel) := fun l' p hp => by
      rw [wtT_mk]
      rcases List.mem_append.1 hp with hp | hp
      · have := hk.kl.1 p hp; omega
      · have h1 := hk.an
        have h2 := wtKs_len kids
        rw [List.mem_singleton.1 hp]
        simp only [List.length_nil, Nat.zero_add] at h1
        simp only
        omega
    cases sel with
    | none =>
      refine ⟨n1 ++ [⟨k, neg, l, a1⟩], s1, ?_, by simp, hst l a1 rfl rfl, hnc l a1, fun hc => by rw [hone hc]; rfl, ?_, ?_, hk.al, hk.no, hkl l, fun x hx p hp => by have := hk.kl.2 x hx p hp; rw [wtT_mk]; omega⟩
      · rw [writeT]
        simp only [hk.eq, List.append_assoc]
      · rw [scan_app, hk.scan]
        have hn : ¬(l.kind = 7 ∨ l.term.kind = 6) := fun e => by simpa using h4.1 e
        simp [scanF, next_no l _ hn]
      · have := hk.wt
        rw [wtL_app, hwl l a1 rfl rfl, wtT_mk]
        simp only [wtO]
        omega
    | some u =>
      obtain ⟨n2, s2, hu⟩ := ih9 u rfl [] (sels ++ s1)
      have hs2 := hu.no rfl
      subst hs2
      obtain ⟨e1, e2, e3, e4⟩ := at_kind l ((sels ++ s1).length : Nat)
      refine ⟨n1 ++ [⟨k, neg, l.at_ ((sels ++ s1).length : Nat), a1⟩], s1 ++ [n2], ?_, by simp, hst _ a1 e1 e2, hnc _ a1, fun hc => by rw [hone hc]; rfl, ?_, ?_, ?_, fun hb => ?_, hkl _, fun x hx p hp => ?_⟩
      · rw [writeT]
        simp only [hk.eq, hu.eq, List.append_assoc, List.nil_append, List.append_nil]
      · rw [scan_app, hk.scan]
        have hn := next_at l (sels ++ s1).length (h4.2 rfl)
        rw [List.length_append] at hn
        simp only [Option.bind_some, scanF, hn, if_true, List.length_append, List.length_cons, List.length_nil]
        congr 1
      · have := hk.wt
        have := hu.wt
        rw [wtL_app, hwl _ a1 e3 e4, wtT_mk, List.map_append, List.sum_append]
        simp only [wtO, List.map_cons, List.map_nil, List.sum_cons, List.sum_nil] at *
        omega
      · exact fun x hx => (List.mem_append.1 hx).elim (hk.al x) fun hx => by rw [List.mem_singleton.1 hx]; exact hu.alone
      · have := h8 u rfl
        rw [hb] at this
        cases this
      · rw [wtT_mk]
        simp only [wtO]
        rcases List.mem_append.1 hx with hx | hx
        · have := hk.kl.2 x hx p hp; omega
        · rw [List.mem_singleton.1 hx] at hp
          have := hu.kl.1 p hp
          omega
theorem plan_small {ps : List Part} {scope : Int} {ts : List (Int × Int)} (h : checkF ps scope = .inr ts) :
    wtL (planF ps).1 + ((planF ps).2.map wtL).sum ≤ ps.length ∧ aloneF (planF ps).1 = true ∧ (∀ l ∈ (planF ps).2, aloneF l = true) ∧ scanF (planF ps).1 0 = some (planF ps).2.length ∧ (planF ps).1 ≠ [] ∧ FitsP ⟨(planF ps).1, (planF ps).2⟩ := by
  have ht := typed_of h
  have hw := wf_of_shape (shape_of_valid ht.valid)
  have hpos := hw.pos
  have hp : ps[ps.length - 1]? = some ps[ps.length - 1] := List.getElem?_eq_getElem (by omega)
  have hl := hw.last
  rw [kindAt_nat ps _ _ hp] at hl
  have hg := good_cond ht ps.length (ps.length - 1) _ 0 hp (by simpa [isCondF] using hl)
  obtain ⟨new, ns, hG⟩ := write_good hg [] []
  have e := hG.eq
  have h1 := wt_whole ht.valid 0
  have h2 := hG.wt
  have h3 := hG.scan
  simp only [List.nil_append] at e
  simp only [List.length_nil, Nat.zero_add] at h3
  have hle := hw.le
  have fits : ∀ l : List PartD, wtL l ≤ 1000 → (∀ p ∈ l, p.kids.length ≤ 1000) → FitsL l := fun l hl hk => by
    have hlen := wtL_sum l
    refine ⟨by omega, fun p hp => ?_⟩
    have h1 : partWt p ≤ wtL l := by
      obtain ⟨i, hi⟩ := List.getElem?_of_mem hp
      have h2 := wtL_take l hi
      have h3 : wtL l = wtL (l.take (i + 1)) + wtL (l.drop (i + 1)) := by rw [← wtL_app, List.take_append_drop]
      omega
    have h2 := hk p hp
    simp only [partWt] at h1
    exact ⟨⟨by omega, by omega⟩, by omega⟩
  have hfit : FitsP ⟨new, ns⟩ := by
    refine ⟨fits new (by omega) fun p hp => by have := hG.kl.1 p hp; omega, ?_, fun l hl => ?_⟩
    · have h4 := (write_len (condF ps ps.length ((ps.length - 1 : Nat) : Int) 0) [] []).2
      have h5 := cnt_wt (condF ps ps.length ((ps.length - 1 : Nat) : Int) 0)
      rw [e] at h4
      simp only [List.length_nil, Nat.zero_add] at h4
      show ns.length ≤ 35184372088064
      omega
    · have h5 : ∀ m : List (List PartD), l ∈ m → wtL l ≤ (m.map wtL).sum := fun m => by
        induction m with
        | nil => intro h; cases h
        | cons x r ih =>
          intro h
          simp only [List.map_cons, List.sum_cons]
          rcases List.mem_cons.1 h with rfl | h
          · omega
          · have := ih h; omega
      have h6 := h5 ns hl
      exact fits l (by omega) fun p hp => by have := hG.kl.2 l hl p hp; omega
  unfold planF
  rw [e]
  exact ⟨by show wtL new + (ns.map wtL).sum ≤ ps.length; omega, hG.alone, hG.al, h3, hG.ne, hfit⟩
end Go.Proofs.YtldnkeackphilaaGreatDoor.X
/- norm.Valid. -/

namespace Go.Proofs.YtldnkeackphilaaGreatDoor.X
open Go.RowKit

set_option maxRecDepth 8000
set_option maxHeartbeats 1000000 in
theorem nValid_aux (p : PlanD) (hp : FitsP p) (res : Bool) (hr : Hid (res = (decide (wtL p.main + wtP p.sels ≤ 1000) && ((listF p.main false p.sels.length && p.sels.all fun l => listF l true 0) || (decide (p.sels.length = 0) && listF p.main true 0))))) : Has Tryz.prog 12 [.agg (planCs p)] (bA res) noTok := by
  refine fnX mixed ⟨[0, 1, 2, 3, 5, 8, 18, 19, 20, 21], [1, 13, 27, 40], [], [], []⟩ Tryz.func12 rfl rfl rfl (by kernel_rfl) rfl ?_
  have hlen := hp.len
  simp [planCs, partsA, selsA]
  refine callP_of (measured_h p hp) (by simp) (by simp) ?_
  simp
  refine ⟨fun hb => ?_, fun hb => ?_⟩
  · rw [hr.out, decide_eq_false (by omega)]; rfl
  have h1 := nList_h ⟨p.sels.length, true⟩ p.main hp.main
  simp only [partsA, lookA] at h1
  refine callP_of h1 (by simp) (by simp) ?_
  simp
  refine wF_loop [] [.slot 1 1] [1, 3, 18, 19, 20] (fun i : Nat => St.asc [(1, .ref 1 0), (3, bA (listF p.main false p.sels.length && (p.sels.take i).all fun l => listF l true 0)), (18, .sl (p.sels.map fun x => [.sl (x.map partCs)])), (19, iA p.sels.length), (20, iA i)] [(1, .box 25 [.sl (p.main.map partCs), .sl (p.sels.map fun x => [.sl (x.map partCs)])])] [(1, true)] false)
    (fun i => i ≤ p.sels.length) (fun i => p.sels.length - i) 0 _ (by simp) (by simp) (by simp) ?_
  intro i hi
  by_cases h : i < p.sels.length
  · have hx : p.sels[i]? = some p.sels[i] := List.getElem?_eq_getElem h
    have htk : p.sels.take (i + 1) = p.sels.take i ++ [p.sels[i]] := by rw [List.take_add_one, hx]; rfl
    have hf := hp.each p.sels[i] (List.getElem_mem h)
    obtain ⟨x, ex⟩ : ∃ x, x = p.sels[i] := ⟨_, rfl⟩
    rw [← ex] at hx hf htk
    have h1 : IntKind.i64.wrap ((i : Int) + 1) = (i : Int) + 1 := wrap64 (by omega) (by omega)
    obtain ⟨b, eb⟩ : ∃ b, b = (listF p.main false p.sels.length && (p.sels.take i).all fun l => listF l true 0) := ⟨_, rfl⟩
    rw [← eb]
    have h2 := nList_h ⟨0, false⟩ x hf
    simp only [partsA, lookA] at h2
    cases b
    · simp [hx, h, h1, -getElem?_pos]
      refine ⟨i + 1, ?_, by omega, by omega⟩
      rw [htk, List.all_append, ← Bool.and_assoc, ← eb]
      simp
    · simp [hx, h, h1, -getElem?_pos]
      refine .inr ?_
      refine callP_of h2 (by simp) (by simp) ?_
      simp [h1]
      refine ⟨i + 1, ?_, by omega, by omega⟩
      rw [htk, List.all_append, ← Bool.and_assoc, ← eb]
      simp
  · have : i = p.sels.length := by omega
    subst this
    rw [List.take_length]
    have hL := nList_h ⟨0, false⟩ p.main hp.main
    simp only [partsA, lookA] at hL
    have hr2 := hr.out
    have hle : decide (wtL p.main + wtP p.sels ≤ 1000) = true := decide_eq_true (by omega)
    rw [hle, Bool.true_and] at hr2
    generalize hc : (listF p.main false p.sels.length && p.sels.all fun l => listF l true 0) = c at *
    clear hr
    cases c
    · by_cases hz : p.sels.length = 0
      · have hz2 : ((p.sels.length : Int) == 0) = true := by simp [hz]
        simp [hz2]
        refine .inr ?_
        refine callP_of hL (by simp) (by simp) ?_
        simp
        rw [hr2]
        simp [hz]
      · have hz2 : ((p.sels.length : Int) == 0) = false := by simpa using hz
        simp [hz2]
        rw [hr2]
        simp [hz]
    · by_cases hz : p.sels.length = 0
      · have hz2 : ((p.sels.length : Int) == 0) = true := by simp [hz]
        simp [hz2]
        rw [hr2]
        simp
      · have hz2 : ((p.sels.length : Int) == 0) = false := by simpa using hz
        simp [hz2]
        rw [hr2]
        simp
theorem nValid_h (p : PlanD) (hp : FitsP p) : Has Tryz.prog 12 [.agg (planCs p)] (bA (planOkF p)) noTok := nValid_aux p hp _ (Lib.hid (plan_eq p))
end Go.Proofs.YtldnkeackphilaaGreatDoor.X
/- norm.Plan of the fixed tree. -/
namespace Go.Proofs.YtldnkeackphilaaGreatDoor.X
open Go.RowKit

def zoneT : ByteArray := ⟨#[122, 111, 110, 101]⟩
def aT : ByteArray := ⟨#[97]⟩
def ps0 : List Part := [⟨14, zoneT, 2, []⟩, ⟨11, aT, 0, []⟩, ⟨6, noText, 1, [0, 1]⟩, ⟨3, noText, 0, [2]⟩]
theorem ps0_valid : validF ps0 = none := by decide +kernel
theorem ps0_check : checkF ps0 2 = .inr [(2, 2), (2, 0), (1, 2), (1, 2)] := by
  have h : (checkF ps0 2).getRight? = some [(2, 2), (2, 0), (1, 2), (1, 2)] := by decide +kernel
  revert h
  generalize checkF ps0 2 = c
  cases c <;> simp
theorem ps0_wf : WF ps0 := wf_of_shape (by decide +kernel)
theorem ps0_mem {P : Part → Prop} (h : ∀ p ∈ ps0, P p) {i : Nat} {p : Part} (hp : ps0[i]? = some p) : P p := h p (List.mem_of_getElem? hp)
theorem ps0_tt : TT ps0 where
  wf := ps0_wf
  cnt := fun i p hp => ps0_mem (P := fun p => p.kids.length ≤ 1000) (by simp [ps0]) hp
  cmp := fun i p hp => ps0_mem (P := fun p => p.kind = 6 → sideK (partAt ps0 (p.kids.getD 0 0)).kind ∧ sideK (partAt ps0 (p.kids.getD 1 0)).kind) (by simp [ps0, partAt, sideK]) hp
  mem := fun i p hp => ps0_mem (P := fun p => p.kind = 7 → sideK (partAt ps0 (p.kids.getD 0 0)).kind ∧ ((partAt ps0 (p.kids.getD 1 0)).kind = 13 ∨ (partAt ps0 (p.kids.getD 1 0)).kind = 16 ∨ (partAt ps0 (p.kids.getD 1 0)).kind = 17)) (by simp [ps0]) hp
theorem ps0_pb : PB ps0 where
  len := by simp [ps0]
  part := by
    have h : ∀ p ∈ ps0, (decide (-9223372036854775808 ≤ p.kind) && decide (p.kind ≤ 9223372036854775807) && decide (-9223372036854775808 ≤ p.num) && decide (p.num ≤ 9223372036854775807) && decide (p.text.size ≤ 140737488351232) && decide (p.kids.length ≤ 35184372088064) && p.kids.all fun k => decide (-9223372036854775808 ≤ k) && decide (k ≤ 9223372036854775807)) = true := by decide +kernel
    intro p hp
    have := h p hp
    simp only [Bool.and_eq_true, decide_eq_true_eq, List.all_eq_true] at this
    obtain ⟨⟨⟨⟨⟨⟨h1, h2⟩, h3⟩, h4⟩, h5⟩, h6⟩, h7⟩ := this
    exact ⟨⟨h1, h2⟩, ⟨h3, h4⟩, h5, h6, fun k hk => ⟨(h7 k hk).1, (h7 k hk).2⟩⟩
theorem ps0_memC (n f : Nat) : MemC ps0 n f := fun i p a b s hp h7 => absurd h7 (ps0_mem (P := fun p => ¬ p.kind = 7) (by simp [ps0]) hp)
theorem ps0_cond : CondC ps0 4 := cond_all ps0 ps0_tt (fun n f _ _ => ps0_memC n f) 4
def main0 : List PartD := [⟨5, true, { LitD.zero with kind := 1, term := ⟨2, 2, zoneT, 0⟩, texts := [aT] }, []⟩]
theorem ps0_tree : condF ps0 4 3 0 = .lit { LitD.zero with kind := 1, term := ⟨2, 2, zoneT, 0⟩, texts := [aT] } 1 none := by
  simp [condF, condStep, ps0, partAt, comparedF, comparedX, opdF, opdOf, againstF, againstL]
theorem plan0 : Has Tryz.prog 13 [.agg [psA ps0], iA 2] (.tup [.agg [partsA main0, selsA []], iA 0]) noTok := by
  refine plan_ok ps0 2 ⟨by decide, by decide⟩ ps0_pb ps0_valid _ ps0_check (condF ps0 4 3 0) ?_ ?_ (main0, []) ?_
  · exact ps0_cond 3 4 0 ⟨3, noText, 0, [2]⟩ rfl (by simp [isCondF]) (by omega) (by omega) (by omega)
  · rw [ps0_tree]; simp [Tr.lit, cntT, cntKs]
  · rw [ps0_tree]; simp [Tr.lit, writeT, writeKs, main0]
end Go.Proofs.YtldnkeackphilaaGreatDoor.X
/- berthlaw16's small functions. -/
namespace Go.Proofs.YtldnkeackphilaaGreatDoor
open Go.RowKit

theorem num_h (n : Int) : Has Tryz.prog 16 [iA n] (iA n) noTok := by
  refine fnT Tryz.mixed [0, 2] [] [] Tryz.func16 rfl rfl rfl (by kernel_rfl) rfl ?_
  simp
theorem label_h (key : ByteArray) : Has Tryz.prog 34 [sA key] (.agg [iA 14, sA key, iA 2, .sl []]) noTok := by
  refine fnT Tryz.mixed [0, 2] [] [] Tryz.func34 rfl rfl rfl (by kernel_rfl) rfl ?_
  simp
end Go.Proofs.YtldnkeackphilaaGreatDoor
/- berthlaw16's fixed tree: awake. -/
namespace Go.Proofs.YtldnkeackphilaaGreatDoor.X
open Go.RowKit

def plan0D : PlanD := ⟨main0, []⟩
theorem fits0 : FitsP plan0D := by
  refine ⟨⟨by decide, fun p hp => ?_⟩, by decide, fun l hl => by cases hl⟩
  simp [plan0D, main0] at hp
  subst hp
  exact ⟨⟨by decide, by decide⟩, by decide⟩
set_option maxRecDepth 8000
theorem awake_h : Has Tryz.prog 10 [] (bA true) noTok := by
  refine fnX mixed ⟨[0, 1, 2, 3, 4, 48], [7, 9, 11, 1, 2, 4], [], [], []⟩ Tryz.func10 rfl rfl rfl (by kernel_rfl) rfl ?_
  have h1 := label_h zoneT
  have h2 := plan0
  have h3 := nValid_h plan0D fits0
  have e1 : (zoneT.toList == [122, 111, 110, 101]) = true := by decide +kernel
  have e2 : (aT.toList == [97]) = true := by decide +kernel
  have e3 : planOkF plan0D = true := by decide +kernel
  rw [e3] at h3
  simp only [psA, ps0, List.map_cons, List.map_nil, pCs, intsA, strsA, LitD.zero, TermD.zero, partsA, selsA, main0, partCs, planCs, plan0D] at h1 h2 h3
  simp
  refine callP_of h1 (by simp) (by simp) ?_
  simp
  refine ⟨rfl, rfl, callP_of h2 (by simp) (by simp) ?_⟩
  simp
  refine callP_of (num_h 0) (by simp) (by simp) ?_
  simp [e1, e2]
  refine .inr ?_
  refine callP_of h3 (by simp) (by simp) ?_
  simp
  exact ⟨eq_of_beq e1, eq_of_beq e2⟩
end Go.Proofs.YtldnkeackphilaaGreatDoor.X
