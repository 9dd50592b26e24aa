/- What a row of this seat gives: the listed variables' cells; a world that meets it; arguments of plain types read; from a function's contract to the row. -/
import Derived.Test.YtldnkeackphilaaGreatDoorNr11
import Derived.Test.YtldnkeackphilaaGreatDoorRows
import Derived.HandedShaped
import Derived.Shelf.Vars
import Derived.ProofKit
import Derived.OpenShut
import Derived.LaidMore
import Derived.LaidHandle
import Derived.Lay
import Derived.Carry
import Derived.Stop.Joined
import Derived.Test.YtldnkeackphilaaGreatDoorNr22
import Derived.Test.YtldnkeackphilaaGreatDoorNr20
import Derived.Deep.DeepHandedRow
import Derived.Test.YtldnkeackphilaaGreatDoorKh
import Derived.Test.YtldnkeackphilaaGreatDoorCards
import Derived.Test.YtldnkeackphilaaGreatDoorTie
import Derived.SevenTiedAt
set_option linter.unusedSimpArgs false
set_option linter.unusedVariables false
namespace Go.Proofs.YtldnkeackphilaaGreatDoor
open Go.ChangeShapes Go.WideShapes Go.RowKit

theorem Tryz.ownNone : ownKnob Tryz.prog.godebug = none := by kernel_rfl
theorem Tryz.etNamed : Tryz.prog.globalNamed "errors.errorType" = some 0 := by kernel_rfl
theorem Tryz.rtCut : (Tryz.prog.cutTypes.find? (·.1 == "internal/reflectlite.rtype")).map (·.2) = some 240 := by kernel_rfl
theorem Tryz.typesSize : Tryz.prog.types.size = 426 := by kernel_rfl
theorem Tryz.oneRow : ((List.range 426).filter fun t => Tryz.prog.rowNamed t [101, 114, 114, 111, 114]) = [44] := by kernel_rfl
def laidN : List (String × DataW Unit) := [("unicode/utf8.acceptRanges", Rows.laid_unicode_utf8_acceptRanges), ("errors.errorType", Rows.laid_errors_errorType), ("unicode/utf8.first", Rows.laid_unicode_utf8_first)]
def laidP : List (String × DataW Unit) := [("unicode/utf8.acceptRanges", Rows.laid_unicode_utf8_acceptRanges), ("unicode/utf8.first", Rows.laid_unicode_utf8_first)]
theorem handle_of_laid {W : World} (h : laidMetH Tryz.prog laidN W) : W.cell? ⟨0, 0, none⟩ = some (.iface 240 (.agg #[.pointer (some ⟨4, 44, none⟩)])) := by
  have h' : laidMet Tryz.prog laidP W ∧ handlesMet Tryz.prog [("errors.errorType", Rows.laid_errors_errorType)] W := h
  obtain ⟨name, u, ty, e1, e2, e3, e4, e5⟩ := h'.2 _ (List.mem_singleton.2 rfl)
  have en : name = [101, 114, 114, 111, 114] := (Option.some.inj e1).symm
  subst en
  obtain rfl := Option.some.inj (Tryz.rtCut.symm.trans e2)
  have hm : ty ∈ (List.range 426).filter fun t => Tryz.prog.rowNamed t [101, 114, 114, 111, 114] := List.mem_filter.2 ⟨List.mem_range.2 (by rw [← Tryz.typesSize]; exact e3), e4⟩
  rw [Tryz.oneRow] at hm
  obtain rfl := List.mem_singleton.1 hm
  have hh : typeHandle Tryz.prog 44 = .pointer (some ⟨4, 44, none⟩) := by kernel_rfl
  rw [hh] at e5
  simpa using World.var?_cell Tryz.etNamed e5 0
theorem max_of_shaped {W : World} (h : W.ShapedOpen Tryz.prog) : ∃ m, W.cell? ⟨1, 0, none⟩ = some (.int .i64 m) :=
  cell_of_shapedOpen_int (zero := #[.int .i64 0]) (t := 3) h (of_decide_eq_true (by kernel_rfl)) (by kernel_rfl) rfl (by kernel_rfl) (by kernel_rfl) (by kernel_rfl)
noncomputable def witW (os : Os) : World :=
  let w0 := World.holding Tryz.prog os ⟨#[], #[], []⟩
  ({ w0 with heap := w0.heap.modify 0 fun
      | .cells _ t frozen => .cells #[.iface 240 (.agg #[.pointer (some ⟨4, 44, none⟩)])] t frozen
      | o => o } : World).layVars Tryz.prog laidP
set_option maxRecDepth 100000 in
theorem witW_os (os : Os) : (witW os).os = os := World.layVars_os _ _ _
set_option maxRecDepth 100000 in
theorem witW_met (os : Os) (args : Array Value) : laidMetH Tryz.prog laidN ((witW os).forCall (fun _ _ => 0) ⟨#[], args, []⟩).memory := by
  have h : laidMetH Tryz.prog laidN (witW os) := laidMetH_of_parts (laidMet_layVars (P := Tryz.prog) (w0 := _) (w' := witW os) (laid := laidP) ["unicode/utf8.acceptRanges", "unicode/utf8.first"] [] rfl (by kernel_rfl) (by kernel_rfl) LaidIn.none) (by kernel_rfl)
  exact h.of_heap (by simp [World.memory, World.forCall, Input.heap])

def PT.Arg : PT → AV → Prop
  | .st r, .agg l => r.Of l
  | .st _, _ => False
  | s, a => s.Of [a]
section
variable {H : Type} {enc : TypeId × Value → H} {P : Program} {W W' : World} {base : Nat}
theorem arg_one {s : PT} {v : Value} {l : List AV} (hs : s.sz = 1) (hc : v.cells.toList = [v]) (h1 : s.Of l) (h2 : ReadsTo W v.cells.toList l) : ∃ a, s.Of [a] ∧ RD W v a := by
  have hl := h1.len
  rw [hs] at hl
  obtain ⟨a, rfl⟩ := List.length_eq_one_iff.1 hl
  rw [hc] at h2
  exact ⟨a, h1, (h2 0 v a rfl rfl).2⟩
theorem arg_read {s : PT} {t : TypeId} {v : Value} {d : DataW H} {p : List MemPlace} (ho : s.ok P (.inl t) = true) (hv : Value.okWide P W .any base t v) (ht : DataW.Trod enc P W 0 (fun _ => true) true t v d p) (hw : ∀ n ∈ d.weights P t, n ≤ reachBytes) : ∃ a, s.Arg a ∧ RD W v a := by
  obtain ⟨fuel, ht⟩ := ht
  obtain ⟨hl, l, h1, h2⟩ := (read_all s).1 t fuel _ d p ho ht hw
  cases s with
  | bo =>
    simp only [PT.ok] at ho
    split at ho
    case h_2 => cases ho
    next hu =>
    refine arg_one rfl ?_ h1 h2
    cases v <;> simp [Value.okWide, hu, Cell.okWide, Cell.ok] at hv <;> rfl
  | nu =>
    simp only [PT.ok] at ho
    split at ho
    case h_2 => cases ho
    next hu =>
    refine arg_one rfl ?_ h1 h2
    cases v <;> simp [Value.okWide, hu, Cell.okWide, Cell.ok] at hv <;> rfl
  | tx =>
    simp only [PT.ok] at ho
    split at ho
    case h_2 => cases ho
    next hu =>
    refine arg_one rfl ?_ h1 h2
    cases v <;> simp [Value.okWide, hu, Cell.okWide, Cell.ok] at hv <;> rfl
  | sl e m =>
    simp only [PT.ok] at ho
    split at ho
    case h_2 => cases ho
    next u hu =>
    refine arg_one rfl ?_ h1 h2
    cases v <;> simp [Value.okWide, hu, Cell.okWide, Cell.ok] at hv <;> rfl
  | st r =>
    simp only [PT.ok] at ho
    split at ho
    case h_2 => cases ho
    next fs hu =>
    simp only [Value.okWide, hu] at hv
    obtain ⟨cs, rfl, hsz, -⟩ := hv
    have hlen : cs.size = l.length := by rw [h1.len]; simpa [Value.cells] using hl
    refine ⟨.agg l, h1, .agg _ _ hlen (fun j v hj => ?_) fun j v a hj ha => ?_⟩
    · have hjl : j < l.length := by rw [← hlen]; exact (Array.getElem?_eq_some_iff.1 hj).1
      exact (h2 j v l[j] (by simpa [Value.cells] using hj) (List.getElem?_eq_getElem hjl)).1
    · exact (h2 j v a (by simpa [Value.cells] using hj) ha).2
  | unit => simp [PT.ok] at ho
  | pair a r => simp [PT.ok] at ho
def oks (P : Program) : List PT → List TypeId → Bool
  | [], [] => true
  | s :: ss, t :: ts => s.ok P (.inl t) && oks P ss ts
  | _, _ => false
def Args : List PT → List AV → Prop
  | [], [] => True
  | s :: ss, a :: l => s.Arg a ∧ Args ss l
  | _, _ => False
theorem args_read : ∀ {ss : List PT} {ts : List TypeId} {vs : List Value} {ds : List (DataW H)} {ps : List MemPlace}, oks P ss ts = true → DataW.TrodAll enc P W 0 (fun _ => true) true ts vs ds ps →
    (∀ (j : Nat) t v, ts[j]? = some t → vs[j]? = some v → Value.okWide P W .any base t v) → (∀ n ∈ DataW.weightsEach P ts ds, n ≤ reachBytes) →
    ∃ l, Args ss l ∧ vs.length = l.length ∧ ∀ (i : Nat) v b, vs[i]? = some v → l[i]? = some b → RD W v b
  | [], [], [], [], ps, _, _, _, _ => ⟨[], trivial, rfl, fun i v b h => by simp at h⟩
  | s :: ss, t :: ts, v :: vs, d :: ds, ps, ho, ht, hv, hw => by
    simp only [oks, Bool.and_eq_true] at ho
    obtain ⟨p, q, h1, h2, -⟩ := ht
    simp only [DataW.weightsEach, List.mem_append] at hw
    obtain ⟨a, k1, k2⟩ := arg_read ho.1 (hv 0 t v rfl rfl) h1 fun n hn => hw n (.inl hn)
    obtain ⟨l, k3, k4, k5⟩ := args_read ho.2 h2 (fun j t v h h' => hv (j + 1) t v (by simpa using h) (by simpa using h')) fun n hn => hw n (.inr hn)
    refine ⟨a :: l, ⟨k1, k3⟩, by simp [k4], fun i v b h h' => ?_⟩
    match i with
    | 0 => cases h; cases h'; exact k2
    | i + 1 => exact k5 i v b (by simpa using h) (by simpa using h')
  | [], _ :: _, _, _, _, ho, _, _, _ => by simp [oks] at ho
  | _ :: _, [], _, _, _, ho, _, _, _ => by simp [oks] at ho
  | [], [], _ :: _, _, _, _, ht, _, _ => by simp [DataW.TrodAll] at ht
  | [], [], [], _ :: _, _, _, ht, _, _ => by simp [DataW.TrodAll] at ht
  | _ :: _, _ :: _, [], _, _, _, ht, _, _ => by simp [DataW.TrodAll] at ht
  | _ :: _, _ :: _, _ :: _, [], _, _, ht, _, _ => by simp [DataW.TrodAll] at ht
theorem args_stay (hl : laidOutB P = true) (hb : Below W.heap.size W W') : ∀ {ts : List TypeId} {vs : List Value} {ds : List (DataW H)} {ps : List MemPlace}, (ts.all fun t => P.readableRec t && decide (t < P.types.size)) = true →
    DataW.TrodAll enc P W 0 (fun _ => true) true ts vs ds ps → (∀ x ∈ ps, x.block < W.heap.size) → DataW.TrodAll enc P W' 0 (fun b => decide (b < W.heap.size)) true ts vs ds ps
  | [], [], [], ps, _, h, _ => h
  | t :: ts, v :: vs, d :: ds, ps, hr, h, hlt => by
    obtain ⟨p, q, h1, h2, rfl⟩ := h
    simp only [List.all_cons, Bool.and_eq_true, decide_eq_true_eq] at hr
    exact ⟨p, q, hb.trod hl hr.1.1 hr.1.2 h1 fun x hx => hlt x (by simp [hx]), args_stay hl hb hr.2 h2 fun x hx => hlt x (by simp [hx]), rfl⟩
  | [], _ :: _, _, _, _, h, _ => by simp [DataW.TrodAll] at h
  | [], [], _ :: _, _, _, h, _ => by simp [DataW.TrodAll] at h
  | _ :: _, [], _, _, _, h, _ => by simp [DataW.TrodAll] at h
  | _ :: _, _ :: _, [], _, _, h, _ => by simp [DataW.TrodAll] at h
end
theorem gl_of {W : World} (hL : laidMetH Tryz.prog laidN W) (hS : W.ShapedOpen Tryz.prog) : Gl (GW W) :=
  ⟨(max_of_shaped hS).imp fun m h => ⟨_, h, rfl, .imm _ rfl⟩, ⟨_, handle_of_laid hL, rfl, .imm _ rfl⟩⟩
theorem Tryz.laidOut : laidOutB Tryz.prog = true := by kernel_rfl
set_option maxRecDepth 100000 in
theorem law_lifted {f : FuncId} {fn : Func} {s : ChangeSpec} (ss : List PT) (os : Os) (started : os.Started) (H : Type) (enc : TypeId × Value → H)
    (noInit : Tryz.prog.inits.idxOf? f = none) (hfn : Tryz.prog.funcs[f]? = some fn) (hvars : s.vars = []) (hoks : oks Tryz.prog ss fn.params.toList = true) (hread : (fn.params.toList.all fun t => Tryz.prog.readableRec t && decide (t < Tryz.prog.types.size)) = true)
    (hres : fn.resultTypes = #[4]) (hspec : ∀ ds : List (DataW H), ds.length = ss.length → s.fn H ds = { results := [.lit (.bool true)], args := ds }) (law : ∀ l, Args ss l → Has Tryz.prog f l (.imm (.bool true)) noTok)
    (witness : ∃ (w : World) (tape : Tape) (i : Input), w.os = os ∧ (w.forCall tape i).Shaped Tryz.prog ∧ i.vars = [] ∧ Input.okWide Tryz.prog (w.forCall tape i) .any w.heap.size f i ∧
      ((s.pre enc Tryz.prog fn [] false (w.forCall tape i).memory i.args ∧ laidMetH Tryz.prog laidN (w.forCall tape i).memory) ∧ sizedMet enc Tryz.prog fn (OpenSpec.ofChange s) false (w.forCall tape i).memory i.args) ∧ ({} : Assume).holds Tryz.prog (lone (Frame.enter Tryz.prog f i.args .normal) [] (w.forCall tape i))) :
    ReturnsInHanded {} Tryz.checked os f .any (fun w args => (s.pre enc Tryz.prog fn [] false w args ∧ laidMetH Tryz.prog laidN w) ∧ sizedMet enc Tryz.prog fn (OpenSpec.ofChange s) false w args) (s.post enc Tryz.prog fn false true false false) := by
  refine returnsInHanded_of_calls (C := Tryz.checked) Tryz.ownNone started noInit witness ?_
  intro w tape i _ hsh _ hok hpre _
  obtain ⟨_, _, _, fn', hfn', _, _, _, hsz, hval⟩ := hok
  have e : fn' = fn := Option.some.inj (hfn'.symm.trans hfn)
  subst e
  obtain ⟨⟨⟨ds, gs, before, hw0, -⟩, hx⟩, hz⟩ := hpre
  have hw := DataW.Whole.of_heap (w' := w.forCall tape i) (by rfl) hw0
  have hL : laidMetH Tryz.prog laidN (w.forCall tape i) := hx.of_heap (by rfl)
  have hwt := hz.weights hw0
  have hval : ∀ (j : Nat) t v, fn'.params[j]? = some t → i.args[j]? = some v → Value.okWide Tryz.prog (w.forCall tape i) .any w.heap.size t v := hval
  generalize w.forCall tape i = W at *
  clear hw0 hx hz
  have hW := hw
  obtain ⟨p, q, hA, hV, rfl, _, _⟩ := hW
  rw [hvars] at hV
  obtain ⟨rfl, rfl⟩ := trodVars_none hV
  have hwt' : ∀ n ∈ DataW.weightsEach Tryz.prog fn'.params.toList ds, n ≤ reachBytes := fun n hn => by
    have hvt : s.plain.varTypes Tryz.prog = [] := by simp [DataSpec.varTypes, ChangeSpec.plain, hvars]
    have hwt : (DataW.weightsEach Tryz.prog (fn'.params.toList ++ s.plain.varTypes Tryz.prog) (ds ++ [])).all (· ≤ reachBytes) = true := hwt
    rw [hvt, List.append_nil, List.append_nil] at hwt
    exact of_decide_eq_true (List.all_eq_true.1 hwt n hn)
  obtain ⟨l, hargs, hlen, hr⟩ := args_read (base := w.heap.size) hoks hA (fun j t v h h' => hval j t v (by rw [Array.getElem?_toList] at h; exact h) (by rw [Array.getElem?_toList] at h'; exact h')) hwt'
  have hlt : ∀ x ∈ p ++ ([] : List MemPlace), x.block < W.heap.size := fun x hx => by simpa using hw.lt x hx
  have hdl : ds.length = ss.length := by
    have h1 : ∀ {ss : List PT} {l : List AV}, Args ss l → ss.length = l.length := by
      intro ss
      induction ss with
      | nil => intro l h; cases l with
        | nil => rfl
        | cons => exact h.elim
      | cons s ss ih => intro l h; cases l with
        | nil => exact h.elim
        | cons a l => simp [ih h.2]
    have h2 : ∀ {ts : List TypeId} {vs : List Value} {ds : List (DataW H)} {ps : List MemPlace}, DataW.TrodAll enc Tryz.prog W 0 (fun _ => true) true ts vs ds ps → ds.length = vs.length := by
      intro ts
      induction ts with
      | nil => intro vs ds ps h; cases vs <;> cases ds <;> simp [DataW.TrodAll] at h ⊢
      | cons t ts ih => intro vs ds ps h; cases vs <;> cases ds <;> simp [DataW.TrodAll] at h ⊢; obtain ⟨p, q, _, h, _⟩ := h; exact ih h
    rw [h2 hA, h1 hargs, hlen]
  refine ((law l hargs).use_imm W (gl_of hL hsh) i.args (by rw [← hlen, Array.length_toList]) fun j v b h h' => hr j v b (by rw [Array.getElem?_toList]; exact h) h').mono ?_
  rintro e W' ⟨rfl, hb⟩
  refine ChangeSpec.post_blind ⟨ds, [], p ++ [], [], p, [], hw, ?_, ?_, ?_, hb.frame _, fun h => by cases h⟩
  · rw [List.append_nil, hspec ds hdl, hres]
    exact trodAll_mk1 (shut_bool Tryz.underlying4 true)
  · rw [List.append_nil, hspec ds hdl]
    exact args_stay Tryz.laidOut hb hread hA fun x hx => hlt x (by simp [hx])
  · rw [List.append_nil, hspec ds hdl, hvars]
    rfl
end Go.Proofs.YtldnkeackphilaaGreatDoor
namespace Go.Proofs.YtldnkeackphilaaGreatDoor
open Go.ChangeShapes Go.WideShapes Go.RowKit

def tpartPT : PT := .st (.pair .nu (.pair .tx (.pair .nu (.pair (.sl .nu 8) .unit))))
def treePT : PT := .st (.pair (.sl tpartPT 56) .unit)
theorem tpart_of {l : List AV} (h : tpartPT.Of l) : ∃ p : Part, l = pCs p ∧ R64 p.kind ∧ R64 p.num ∧ p.text.size ≤ 140737488351232 ∧ p.kids.length ≤ 35184372088064 ∧ ∀ k ∈ p.kids, R64 k := by
  obtain ⟨l1, r1, rfl, ⟨a, rfl, ha⟩, l2, r2, rfl, ⟨b, rfl, hb⟩, l3, r3, rfl, ⟨c, rfl, hc⟩, l4, r4, rfl, hd, rfl⟩ := h
  obtain ⟨d, rfl, hd2, hd3⟩ := ints_of' hd
  have r64 : ∀ n : Int, -9223372036854775808 ≤ n ∧ n ≤ 9223372036854775807 → R64 n := fun n h => ⟨h.1, h.2⟩
  exact ⟨⟨a, b, c, d⟩, rfl, r64 a ha, r64 c hc, by simpa [reachBytes] using hb, by show d.length ≤ _; omega, fun k hk => r64 k (hd3 k hk)⟩
theorem tree_of {l : List AV} (h : treePT.Of l) : ∃ ps : List Part, l = [psA ps] ∧ X.PB ps := by
  obtain ⟨l1, r1, rfl, ⟨es, rfl, hl, he⟩, rfl⟩ := h
  obtain ⟨L, rfl, hL⟩ := map_of (f := pCs) (Q := fun p => R64 p.kind ∧ R64 p.num ∧ p.text.size ≤ 140737488351232 ∧ p.kids.length ≤ 35184372088064 ∧ ∀ k ∈ p.kids, R64 k) fun x hx => tpart_of (he x hx)
  have := len_of (m := 2513169434850) (k := 56) (by simpa using hl) (by omega) (by omega)
  exact ⟨L, rfl, Nat.le_trans this (by decide), hL⟩
theorem tree_args {f : FuncId} (law : ∀ (ps : List Part) (scope : Int), R64 scope → X.PB ps → Has Tryz.prog f [.agg [psA ps], iA scope] (bA true) noTok) (l : List AV) (h : Args [treePT, .nu] l) : Has Tryz.prog f l (.imm (.bool true)) noTok := by
  rcases l with _ | ⟨a, _ | ⟨b, _ | ⟨c, l⟩⟩⟩
  · exact h.elim
  · exact h.2.elim
  · obtain ⟨h1, h2, -⟩ := h
    cases a with
    | agg l =>
      obtain ⟨ps, rfl, hp⟩ := tree_of h1
      obtain ⟨n, e, hn⟩ := h2
      cases e
      exact law ps n ⟨hn.1, hn.2⟩ hp
    | _ => exact h1.elim
  · exact h.2.2.elim
theorem args_len : ∀ {ss : List PT} {l : List AV}, Args ss l → ss.length = l.length
  | [], [], _ => rfl
  | _ :: _, _ :: _, h => by simp [args_len h.2]
  | [], _ :: _, h => h.elim
  | _ :: _, [], h => h.elim
end Go.Proofs.YtldnkeackphilaaGreatDoor
namespace Go.Proofs.YtldnkeackphilaaGreatDoor
open Go.ChangeShapes Go.WideShapes Go.RowKit

set_option maxRecDepth 100000 in
theorem normRefused_lifted (os : Os) (started : os.Started) (H : Type) (enc : TypeId × Value → H) :
    ReturnsInHanded {} Tryz.checked os 5 .any (fun w args => (Rows.normRefusedSpec.pre enc Tryz.prog Tryz.f5 [] false w args ∧ laidMetH Tryz.prog laidN w) ∧ sizedMet enc Tryz.prog Tryz.f5 (OpenSpec.ofChange Rows.normRefusedSpec) false w args) (Rows.normRefusedSpec.post enc Tryz.prog Tryz.f5 false true false false) :=
  law_lifted [treePT, .nu] os started H enc (by kernel_rfl) Tryz.func5 rfl (by kernel_rfl) (by kernel_rfl) (by kernel_rfl)
    (fun ds hd => by
      match ds, hd with
      | [d1, d2], _ => rfl)
    (tree_args X.normRefused_h)
    (ChangeSpec.witness_shaped (enc := enc) (C := Tryz.checked) (os := os) (X := fun w _ => laidMetH Tryz.prog laidN w) false (witW os) #[.agg #[.slice .none 0 0], .int .i64 0] 8 (witW_os os)
      (World.shaped_of_ZipB (by kernel_rfl) (by kernel_rfl)) (by kernel_rfl) (by kernel_rfl) (by kernel_rfl) (witW_met os _))
theorem normRefused_holds : Rows.NormRefusedSaid :=
  OpenClaim.holds_of_wide 5 Tryz.f5 rfl rfl rfl rfl rfl rfl rfl ⟨rfl, rfl, rfl, rfl, rfl⟩ rfl rfl rfl rfl rfl (by kernel_rfl) Tryz.func5 normRefused_facts
    (of_decide_eq_true (by kernel_rfl)) (by unfold Func.isWrapper; first | (rw [if_pos (by decide +kernel)]; kernel_rfl) | (rw [if_neg (by decide +kernel)]; exact ⟨rfl, rfl⟩))
    (fun os started H enc _ => normRefused_lifted os started H enc)
theorem normRefused_card : Rows.NormRefusedCardSaid :=
  Claim7.holds_tied_plain_at .later [] [.data, .handle, .pinned] true (true, "3a9c8ba0db31394d13176adf808722b56f8a218ac4adacccb409ce61df157404") true
    normRefused_holds (fun _ h => by cases h) (by kernel_rfl) (fun _ h => by cases h) normRefused_row_tie rfl ⟨rfl, rfl⟩ (by kernel_rfl) rfl
    (fun f fn hf hfn => by
      obtain rfl : f = 5 := Option.some.inj ((show Tryz.prog.funcNamed "berth/berthlaw16.NormRefused" = some 5 by kernel_rfl).symm.trans hf) |>.symm
      obtain rfl : fn = Tryz.f5 := (Option.some.inj (Tryz.func5.symm.trans hfn)).symm
      exact ⟨by kernel_rfl, fun j t ht => by
        rw [Tryz.params5] at ht
        have hm : t ∈ [30, 3] := by simpa using Array.mem_of_getElem? ht
        have hall : ([30, 3].all fun u => !Tryz.prog.wantsStandIn u) = true := by kernel_rfl
        exact (show Tryz.prog.wantsStandIn t = false by simpa using List.all_eq_true.1 hall t hm)⟩)
    (by kernel_rfl)
#print axioms normRefused_card
end Go.Proofs.YtldnkeackphilaaGreatDoor
