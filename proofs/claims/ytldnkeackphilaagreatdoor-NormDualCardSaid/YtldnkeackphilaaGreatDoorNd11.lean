/- What a plan is made of, in plain Lean, and as values. -/
import Derived.Test.YtldnkeackphilaaGreatDoorNd2
import Derived.Test.YtldnkeackphilaaGreatDoorNd1
import Derived.Lib.SplitLaws
import Derived.ChangeArms
import Derived.DataReads
import Derived.Test.YtldnkeackphilaaGreatDoorProg
import Derived.Test.YtldnkeackphilaaGreatDoorNd10
set_option linter.unusedSimpArgs false
set_option linter.unusedVariables false
namespace Go.Proofs.YtldnkeackphilaaGreatDoor

def noText : ByteArray := ⟨#[]⟩
structure TermD where
  kind : Int
  side : Int
  key : ByteArray
  sel : Int
structure LitD where
  kind : Int
  term : TermD
  rel : Int
  num : Int
  texts : List ByteArray
  nums : List Int
  other : TermD
  of_ : Int
  key : ByteArray
  sel : Int
def TermD.zero : TermD := ⟨0, 0, noText, 0⟩
def LitD.zero : LitD := ⟨0, .zero, 0, 0, [], [], .zero, 0, noText, 0⟩
structure PartD where
  kind : Int
  neg : Bool
  lit : LitD
  kids : List Int
structure PlanD where
  main : List PartD
  sels : List (List PartD)
abbrev iA (n : Int) : AV := .imm (.int .i64 n)
abbrev bA (b : Bool) : AV := .imm (.bool b)
abbrev sA (s : ByteArray) : AV := .imm (.string s)
def intsA (l : List Int) : AV := .sl (l.map fun n => [iA n])
def strsA (l : List ByteArray) : AV := .sl (l.map fun s => [sA s])
def termCs (t : TermD) : List AV := [iA t.kind, iA t.side, sA t.key, iA t.sel]
def litCs (l : LitD) : List AV := [iA l.kind, iA l.term.kind, iA l.term.side, sA l.term.key, iA l.term.sel, iA l.rel, iA l.num, strsA l.texts, intsA l.nums, iA l.other.kind, iA l.other.side, sA l.other.key, iA l.other.sel, iA l.of_, sA l.key, iA l.sel]
def partCs (p : PartD) : List AV := [iA p.kind, bA p.neg, iA p.lit.kind, iA p.lit.term.kind, iA p.lit.term.side, sA p.lit.term.key, iA p.lit.term.sel, iA p.lit.rel, iA p.lit.num, strsA p.lit.texts, intsA p.lit.nums, iA p.lit.other.kind, iA p.lit.other.side, sA p.lit.other.key, iA p.lit.other.sel, iA p.lit.of_, sA p.lit.key, iA p.lit.sel, intsA p.kids]
def partsA (l : List PartD) : AV := .sl (l.map partCs)
def selsA (l : List (List PartD)) : AV := .sl (l.map fun x => [partsA x])
def planCs (p : PlanD) : List AV := [partsA p.main, selsA p.sels]
end Go.Proofs.YtldnkeackphilaaGreatDoor
namespace Go.Proofs.YtldnkeackphilaaGreatDoor
open Go.RowKit

def pieces (c : UInt8) : List UInt8 → List (List UInt8)
  | [] => [[]]
  | b :: l => if b = c then [] :: pieces c l else match pieces c l with
    | p :: ps => (b :: p) :: ps
    | [] => [[b]]
theorem pieces_miss (c : UInt8) : ∀ l : List UInt8, c ∉ l → pieces c l = [l]
  | [], _ => rfl
  | b :: l, h => by
    simp only [List.mem_cons, not_or] at h
    rw [pieces, if_neg (Ne.symm h.1), pieces_miss c l h.2]
theorem pieces_hit (c : UInt8) (r : List UInt8) : ∀ a : List UInt8, c ∉ a → pieces c (a ++ c :: r) = a :: pieces c r
  | [], _ => by simp [pieces]
  | b :: a, h => by
    simp only [List.mem_cons, not_or] at h
    rw [List.cons_append, pieces, if_neg (Ne.symm h.1), pieces_hit c r a h.2]
theorem pieces_split (c : UInt8) : ∀ l : List UInt8, Lib.splitK [c] 0 (Lib.count l [c]) l = pieces c l := by
  intro l
  generalize hk : Lib.count l [c] = k
  induction k generalizing l with
  | zero =>
    have : c ∉ l := by
      rw [Lib.count_one] at hk
      exact List.count_eq_zero.1 hk
    rw [pieces_miss c l this]; rfl
  | succ k ih =>
    have hm : c ∈ l := by
      rw [Lib.count_one] at hk
      exact List.count_pos_iff.1 (by omega)
    obtain ⟨a, r, rfl, ha⟩ : ∃ a r, l = a ++ c :: r ∧ c ∉ a := by
      clear hk ih
      induction l with
      | nil => cases hm
      | cons b l ih =>
        by_cases hb : b = c
        · exact ⟨[], l, by rw [hb]; rfl, by simp⟩
        · obtain ⟨a, r, rfl, ha⟩ := ih (by simpa [Ne.symm hb] using hm)
          exact ⟨b :: a, r, rfl, by simp [ha, Ne.symm hb]⟩
    have hidx : Lib.index (a ++ c :: r) [c] = (a.length : Int) := by
      refine Lib.index_first (by simp) ?_ ?_
      · simp [Lib.occAt, List.isPrefixOf]
      · intro j hj
        have : (a ++ c :: r).drop j = a[j] :: (a ++ c :: r).drop (j + 1) := by
          rw [List.drop_eq_getElem_cons (by simp; omega), List.getElem_append_left hj]
        rw [Lib.occAt, this]
        have hne : c ≠ a[j] := fun e => ha (e ▸ List.getElem_mem hj)
        simp [List.isPrefixOf, hne]
    have hc : Lib.count r [c] = k := by
      rw [Lib.count_one] at hk ⊢
      rw [List.count_append, List.count_eq_zero.2 ha, List.count_cons_self] at hk
      omega
    rw [Lib.splitK, hidx, if_neg (by simp), pieces_hit c r a ha]
    have e1 : (a ++ c :: r).take ((a.length : Int).toNat + 0) = a := by simp
    have e2 : (a ++ c :: r).drop ((a.length : Int).toNat + [c].length) = r := by
      rw [show (a.length : Int).toNat + [c].length = a.length + 1 from by simp, List.drop_append]
      simp
    rw [e1, e2, ih r hc]
def piecesB (c : UInt8) (s : ByteArray) : List ByteArray := (pieces c s.data.toList).map fun l => ⟨l.toArray⟩
theorem data_inj {a b : ByteArray} (h : a.data.toList = b.data.toList) : a = b := by
  obtain ⟨a⟩ := a; obtain ⟨b⟩ := b
  simpa using h
theorem split_pieces (c : UInt8) (s : ByteArray) : Lib.splitB ⟨#[c]⟩ 0 (Lib.countB s ⟨#[c]⟩) s = piecesB c s := by
  have h := Lib.splitB_data ⟨#[c]⟩ 0 (Lib.countB s ⟨#[c]⟩) s
  have h2 : (Lib.splitB ⟨#[c]⟩ 0 (Lib.countB s ⟨#[c]⟩) s).map (·.data.toList) = pieces c s.data.toList := by
    rw [h]
    exact pieces_split c s.data.toList
  unfold piecesB
  rw [← h2, List.map_map]
  symm
  conv => rhs; rw [← List.map_id (Lib.splitB ⟨#[c]⟩ 0 (Lib.countB s ⟨#[c]⟩) s)]
  refine List.map_congr_left fun b _ => ?_
  apply data_inj
  simp
theorem pieces_ne (c : UInt8) : ∀ l, pieces c l ≠ []
  | [] => by simp [pieces]
  | b :: l => by
    rw [pieces]
    split
    · simp
    · split <;> simp
theorem pieces_len (c : UInt8) : ∀ l, (pieces c l).length ≤ l.length + 1
  | [] => by simp [pieces]
  | b :: l => by
    have := pieces_len c l
    rw [pieces]
    split
    · simp; omega
    · split
      · rename_i h; rw [h] at this; simp at this ⊢; omega
      · simp
theorem countB_pieces (c : UInt8) (s : ByteArray) : Lib.countB s ⟨#[c]⟩ + 1 = (piecesB c s).length := by
  rw [← split_pieces, Lib.splitB_all ⟨#[c]⟩ (Nat.le_refl 1) 0 _ s rfl]
end Go.Proofs.YtldnkeackphilaaGreatDoor
namespace Go.Proofs.YtldnkeackphilaaGreatDoor
open Go.RowKit

inductive RD (w : World) : Value → AV → Prop
  | imm (v : Value) (h : v.oneCell' = true) : RD w v (.imm v)
  | nil {A : Option Addr} : RD w (.slice A 0 0) (.sl [])
  | sl (g o sz c : Nat) (es : List (List AV)) (us : Nat → Nat → Value) (hsz : ∀ e ∈ es, e.length = sz) (hc : es.length ≤ c)
      (hcell : ∀ (i : Nat) (e : List AV) (j : Nat) (a : AV), es[i]? = some e → e[j]? = some a → w.cell? ⟨g, o + i * sz + j, none⟩ = some (us i j) ∧ (us i j).oneCell' = true)
      (hr : ∀ (i : Nat) (e : List AV) (j : Nat) (a : AV), es[i]? = some e → e[j]? = some a → RD w (us i j) a) : RD w (.slice (some ⟨g, o, none⟩) es.length c) (.sl es)
  | ptr (g o : Nat) (cs : List AV) (us : Nat → Value) (hcell : ∀ (j : Nat) (a : AV), cs[j]? = some a → w.cell? ⟨g, o + j, none⟩ = some (us j) ∧ (us j).oneCell' = true)
      (hr : ∀ (j : Nat) (a : AV), cs[j]? = some a → RD w (us j) a) : RD w (.pointer (some ⟨g, o, none⟩)) (.ptr cs)
  | agg (vs : Array Value) (cs : List AV) (hl : vs.size = cs.length) (h1 : ∀ (j : Nat) (v : Value), vs[j]? = some v → v.oneCell' = true) (h : ∀ (j : Nat) (v : Value) (a : AV), vs[j]? = some v → cs[j]? = some a → RD w v a) : RD w (.agg vs) (.agg cs)
  | ifc (t : TypeId) (v : Value) (a : AV) (h : RD w v a) : RD w (.iface t v) (.ifc t a)
def GW (w : World) : Gh := fun g i a => ∃ u, w.cell? ⟨g, i, none⟩ = some u ∧ u.oneCell' = true ∧ RD w u a
theorem RD.rs {w : World} {v : Value} {a : AV} (h : RD w v a) : RS (GW w) v a := by
  induction h with
  | imm v h => exact .imm v h
  | nil => exact .nil
  | sl g o sz c es us hsz hc hcell hr _ => exact .sl g o sz c es hsz hc fun i e j a h1 h2 => ⟨_, (hcell i e j a h1 h2).1, (hcell i e j a h1 h2).2, hr i e j a h1 h2⟩
  | ptr g o cs us hcell hr _ => exact .ptr g o cs fun j a h => ⟨_, (hcell j a h).1, (hcell j a h).2, hr j a h⟩
  | agg vs cs hl h1 _ ih => exact .agg vs cs hl h1 ih
  | ifc t v a _ ih => exact .ifc t v a ih
theorem cells_GW (w : World) (hg : Gl (GW w)) : CellsR (GW w) w := ⟨fun g i a ⟨u, h1, h2, h3⟩ => ⟨u, h1, h2, h3.rs⟩, hg⟩
theorem Has.use {P : Program} {f : FuncId} {args : List AV} {a : AV} {rt : Nat → Option (Option TypeId)} (h : Has P f args a rt) (w : World) (hg : Gl (GW w)) (vals : Array Value) (hl : vals.size = args.length) (hr : ∀ (i : Nat) v b, vals[i]? = some v → args[i]? = some b → RD w v b) :
    Calls P f vals w fun e w' => ∃ v G' O', e = .returned v ∧ Rl P 1 G' O' w' #[v] (St.one a rt) ∧ Fr (GW w) noOm w G' O' w' :=
  h.calls (GW w) w vals (cells_GW w hg) hl fun i v b h1 h2 => (hr i v b h1 h2).rs
theorem Has.use_imm {P : Program} {f : FuncId} {args : List AV} {x : Value} {rt : Nat → Option (Option TypeId)} (h : Has P f args (.imm x) rt) (w : World) (hg : Gl (GW w)) (vals : Array Value) (hl : vals.size = args.length) (hr : ∀ (i : Nat) v b, vals[i]? = some v → args[i]? = some b → RD w v b) :
    Calls P f vals w fun e w' => e = .returned x ∧ Below w.heap.size w w' := by
  refine Calls.mono (h.use w hg vals hl hr) fun e w' hq => ?_
  obtain ⟨v, G', O', rfl, h1, h2⟩ := hq
  have hv := h1.vals 0
  have e0 : (#[v] : Array Value).getD 0 undef = v := rfl
  have e1 : (St.one (.imm x) rt).val 0 = .imm x := rfl
  rw [e0, e1] at hv
  have hx : v = x := by
    cases hv with
    | sh h => cases h; rfl
  subst hx
  refine ⟨rfl, ?_⟩
  exact ⟨h2.os, h2.tape, h2.output, h2.size, fun k hk => (h2.old k hk rfl).1⟩
end Go.Proofs.YtldnkeackphilaaGreatDoor
namespace Go.Proofs.YtldnkeackphilaaGreatDoor
open Go.RowKit

inductive PT where
  | bo | nu | tx
  | sl (e : PT) (bytes : Nat)
  | st (r : PT)
  | unit
  | pair (a r : PT)
def PT.sz : PT → Nat
  | .unit => 0
  | .pair a r => a.sz + r.sz
  | .st r => r.sz
  | _ => 1
def PT.ok (P : Program) : PT → TypeId ⊕ (List Field × Nat) → Bool
  | .bo, .inl t => match P.underlying t with | some .bool => true | _ => false
  | .nu, .inl t => match P.underlying t with | some (.int .i64) => true | _ => false
  | .tx, .inl t => match P.underlying t with | some .string => true | _ => false
  | .sl e n, .inl t => match P.underlying t with | some (.slice u) => e.ok P (.inl u) && P.cellsOf u == e.sz && decide (0 < e.sz) && P.bytesOf u == n | _ => false
  | .st r, .inl t => match P.underlying t with | some (.struct fs) => r.ok P (.inr (fs.toList, 0)) && P.cellsOf t == r.sz | _ => false
  | .unit, .inr ([], _) => true
  | .pair a r, .inr (f :: fs, o) => f.offset == o && P.cellsOf f.type == a.sz && a.ok P (.inl f.type) && r.ok P (.inr (fs, o + a.sz))
  | _, _ => false
def PT.Of : PT → List AV → Prop
  | .bo, l => ∃ b, l = [.imm (.bool b)]
  | .nu, l => ∃ n : Int, l = [.imm (.int .i64 n)] ∧ -9223372036854775808 ≤ n ∧ n ≤ 9223372036854775807
  | .tx, l => ∃ s : ByteArray, l = [.imm (.string s)] ∧ s.size ≤ reachBytes
  | .sl e n, l => ∃ es : List (List AV), l = [.sl es] ∧ es.length * n ≤ reachBytes ∧ ∀ x ∈ es, e.Of x
  | .st r, l => r.Of l
  | .unit, l => l = []
  | .pair a r, l => ∃ l1 l2, l = l1 ++ l2 ∧ a.Of l1 ∧ r.Of l2
theorem PT.Of.len : ∀ {s : PT} {l : List AV}, s.Of l → l.length = s.sz
  | .bo, _, ⟨_, h⟩ => by rw [h]; rfl
  | .nu, _, ⟨_, h, _⟩ => by rw [h]; rfl
  | .tx, _, ⟨_, h, _⟩ => by rw [h]; rfl
  | .sl _ _, _, ⟨_, h, _⟩ => by rw [h]; rfl
  | .st r, _, h => PT.Of.len (s := r) h
  | .unit, l, h => by rw [show l = [] from h]; rfl
  | .pair a r, _, ⟨l1, l2, h, h1, h2⟩ => by rw [h, List.length_append, h1.len, h2.len]; rfl
theorem cells?_get {w : World} {base : Nat} {a : Addr} {n : Nat} {cs : List Value} (h : w.cells? base a n = some cs) : cs.length = n ∧ ∀ j, j < n → w.cell? (a.add j) = cs[j]? := by
  unfold World.cells? at h
  split at h
  · refine ⟨by rw [mapM_some_length h]; simp, fun j hj => ?_⟩
    exact mapM_some_get h j j (by simp [hj])
  · cases h
theorem spot_of {w : World} {a : Addr} {v : Value} (h : w.cell? a = some v) : a.spot = none := by
  unfold World.cell? at h
  split at h
  · split at h
    · cases h
    · next h' => simpa using h'
  · cases h
section
variable {H : Type} {enc : TypeId × Value → H} {P : Program} {w : World} {base : Nat} {held : Bool}
def ReadsTo (w : World) (cs : List Value) (l : List AV) : Prop := ∀ (j : Nat) v a, cs[j]? = some v → l[j]? = some a → v.oneCell' = true ∧ RD w v a
def Read1 (enc : TypeId × Value → H) (P : Program) (w : World) (base : Nat) (held : Bool) (s : PT) : Prop := ∀ (t : TypeId) (fuel : Nat) (cs : List Value) (d : DataW H) (ps : List MemPlace), s.ok P (.inl t) = true → DataW.trod enc P w base (fun _ => true) held fuel t cs = some (d, ps) → (∀ n ∈ d.weights P t, n ≤ reachBytes) → cs.length = s.sz ∧ ∃ l, s.Of l ∧ ReadsTo w cs l
def Read2 (enc : TypeId × Value → H) (P : Program) (w : World) (base : Nat) (held : Bool) (s : PT) : Prop := ∀ (fs : List Field) (o fuel : Nat) (cs : List Value) (xs : List (DataW H × List MemPlace)), s.ok P (.inr (fs, o)) = true → fs.mapM (fun f => DataW.trod enc P w base (fun _ => true) held fuel f.type ((cs.drop f.offset).take (P.cellsOf f.type))) = some xs → (∀ n ∈ DataW.weightsEach P (fs.map (·.type)) (xs.map (·.1)), n ≤ reachBytes) → ∃ l, s.Of l ∧ ReadsTo w (cs.drop o) l
theorem reads_one {v : Value} {a : AV} (h1 : v.oneCell' = true) (h2 : RD w v a) : ReadsTo w [v] [a] := fun j u b hu hb => by
  match j with
  | 0 => cases hu; cases hb; exact ⟨h1, h2⟩
  | j + 1 => simp at hu
theorem weights_all {e : TypeId} : ∀ {l : List (DataW H)} {i : Nat} {d : DataW H}, l[i]? = some d → ∀ n ∈ d.weights P e, n ∈ DataW.weightsAll P e l
  | x :: l, 0, d, h, n, hn => by
    simp at h
    subst h
    simp only [DataW.weightsAll, List.mem_append]
    exact .inl hn
  | x :: l, i + 1, d, h, n, hn => by
    simp only [DataW.weightsAll, List.mem_append]
    exact .inr (weights_all (l := l) (i := i) (by simpa using h) n hn)
  | [], _, _, h, _, _ => by simp at h
theorem read_slice {e : PT} {m : Nat} (ih : Read1 enc P w base held e) : Read1 enc P w base held (.sl e m) := by
  intro t fuel cs d ps ho ht hw
  simp only [PT.ok] at ho
  split at ho
  case h_2 => cases ho
  next u hu =>
  simp only [Bool.and_eq_true, beq_iff_eq, decide_eq_true_eq] at ho
  obtain ⟨⟨⟨ho, hc⟩, h0⟩, hb⟩ := ho
  rcases DataW.trod_slice hu ht with ⟨rfl, -⟩ | ⟨a, len, cap, elems, rest, n, rfl, rfl, hx, -, hlc, -, hlen, hel, hsp, -⟩
  · exact ⟨rfl, [.sl []], ⟨[], rfl, by simp, fun x hx => by simp at hx⟩, reads_one rfl .nil⟩
  simp only [Prod.mk.injEq] at hx
  obtain ⟨rfl, -⟩ := hx
  obtain ⟨hr1, hr2⟩ := hsp rfl
  simp only [DataW.weights, hu, List.mem_cons, List.mem_append] at hw
  have hsize := hw _ (.inl rfl)
  have hsz : (elems.map (·.1)).length * m ≤ reachBytes := by
    rw [hb] at hsize
    refine Nat.le_trans (Nat.mul_le_mul_right _ ?_) hsize
    omega
  by_cases hcap : cap = 0
  · have hl0 : len = 0 := by omega
    subst hl0 hcap
    exact ⟨rfl, [.sl []], ⟨[], rfl, by simp, fun x hx => by simp at hx⟩, reads_one rfl .nil⟩
  have hspot : a.spot = none := by
    have key : ∀ (x : Option (DataW H × List MemPlace)), (w.cells? base (a.add (0 * P.cellsOf u)) (P.cellsOf u)).bind (DataW.trod enc P w base (fun _ => true) held n u) = x → x.isSome = true → a.spot = none := by
      intro x h1 h2
      obtain ⟨y, rfl⟩ := Option.isSome_iff_exists.1 h2
      obtain ⟨cs, h3, -⟩ := Option.bind_eq_some_iff.1 h1
      obtain ⟨k1, k2⟩ := cells?_get h3
      have k3 := k2 0 (by omega)
      rw [List.getElem?_eq_getElem (by omega)] at k3
      have := spot_of k3
      simpa [Addr.add] using this
    by_cases hl : 0 < len
    · exact key _ (hel 0 hl) (by simp [hlen, hl])
    · have hl0 : len = 0 := by omega
      subst hl0
      exact key _ (hr2 0 (by omega)) (by simp [hr1]; omega)
  obtain ⟨g, o, sp⟩ := a
  simp only at hspot
  subst hspot
  have each : ∀ i, i < len → ∃ l us, e.Of l ∧ us.length = e.sz ∧ (∀ j, j < e.sz → w.cell? ⟨g, o + i * e.sz + j, none⟩ = us[j]?) ∧ ReadsTo w us l := by
    intro i hi
    have h1 := hel i hi
    obtain ⟨y, hy⟩ : ∃ y, elems[i]? = some y := ⟨_, List.getElem?_eq_getElem (by omega)⟩
    rw [hy] at h1
    obtain ⟨us, h3, h4⟩ := Option.bind_eq_some_iff.1 h1
    obtain ⟨k1, k2⟩ := cells?_get h3
    obtain ⟨k3, l, k4, k5⟩ := ih u n us y.1 y.2 ho h4 fun q hq => hw q (.inr (.inl (weights_all (i := i) (by rw [List.getElem?_map, hy]; rfl) q hq)))
    refine ⟨l, us, k4, k3, fun j hj => ?_, k5⟩
    have := k2 j (by omega)
    rwa [hc, Addr.add_mid, Addr.add_mid] at this
  have each' : ∀ i, ∃ (l : List AV) (us : List Value), i < len → e.Of l ∧ us.length = e.sz ∧ (∀ j, j < e.sz → w.cell? ⟨g, o + i * e.sz + j, none⟩ = us[j]?) ∧ ReadsTo w us l := fun i => by
    by_cases hi : i < len
    · obtain ⟨l, us, h⟩ := each i hi
      exact ⟨l, us, fun _ => h⟩
    · exact ⟨[], [], fun h => absurd h hi⟩
  obtain ⟨L, hL⟩ := Classical.axiomOfChoice each'
  obtain ⟨U, hU⟩ := Classical.axiomOfChoice hL
  have hll : ((List.range len).map L).length = len := by simp
  have hget : ∀ {i : Nat} {x : List AV}, ((List.range len).map L)[i]? = some x → i < len ∧ x = L i := fun {i x} h => by
    have hi : i < len := by rw [← hll]; exact (List.getElem?_eq_some_iff.1 h).1
    rw [List.getElem?_map, List.getElem?_range hi] at h
    exact ⟨hi, by simpa using h.symm⟩
  have cell : ∀ (i : Nat) (x : List AV) (j : Nat) (a : AV), ((List.range len).map L)[i]? = some x → x[j]? = some a → w.cell? ⟨g, o + i * e.sz + j, none⟩ = some ((U i).getD j undef) ∧ ((U i).getD j undef).oneCell' = true ∧ RD w ((U i).getD j undef) a := by
    intro i x j a hx ha
    obtain ⟨hi, rfl⟩ := hget hx
    obtain ⟨k1, k2, k3, k4⟩ := hU i hi
    have hj : j < e.sz := by rw [← k1.len]; exact (List.getElem?_eq_some_iff.1 ha).1
    have hu : (U i)[j]? = some ((U i).getD j undef) := by simp [List.getD, List.getElem?_eq_getElem (show j < (U i).length by omega)]
    exact ⟨(k3 j hj).trans hu, k4 j _ a hu ha⟩
  refine ⟨rfl, [.sl ((List.range len).map L)], ⟨_, rfl, ?_, fun x hx => ?_⟩, reads_one rfl ?_⟩
  · rw [hll]
    rw [List.length_map, hlen] at hsz
    exact hsz
  · obtain ⟨i, hi, rfl⟩ := List.mem_map.1 hx
    exact (hU i (List.mem_range.1 hi)).1
  · have := RD.sl (w := w) g o e.sz cap ((List.range len).map L) (fun i j => (U i).getD j undef) (fun x hx => ?_) (by omega) (fun i x j a hx ha => ⟨(cell i x j a hx ha).1, (cell i x j a hx ha).2.1⟩) fun i x j a hx ha => (cell i x j a hx ha).2.2
    · rwa [hll] at this
    · obtain ⟨i, hi, rfl⟩ := List.mem_map.1 hx
      exact (hU i (List.mem_range.1 hi)).1.len
theorem trod_one {t : TypeId} {fuel : Nat} {cs : List Value} {x : DataW H × List MemPlace} (h : DataW.trod enc P w base (fun _ => true) held fuel t cs = some x) : ∃ n, fuel = n + 1 := by
  cases fuel with
  | zero => simp [DataW.trod] at h
  | succ n => exact ⟨n, rfl⟩
theorem trod_st {t : TypeId} {fs : Array Field} {fuel : Nat} {cs : List Value} {d : DataW H} {ps : List MemPlace} (ht : P.underlying t = some (.struct fs)) (h : DataW.trod enc P w base (fun _ => true) held (fuel + 1) t cs = some (d, ps)) :
    cs.length = P.cellsOf t ∧ ∃ xs, fs.toList.mapM (fun f => DataW.trod enc P w base (fun _ => true) held fuel f.type ((cs.drop f.offset).take (P.cellsOf f.type))) = some xs ∧ d = .agg (xs.map (·.1)) := by
  unfold DataW.trod at h
  rw [ht] at h
  split at h <;> simp_all
  obtain ⟨h0, xs, h1, h2, -⟩ := h
  exact ⟨xs, h1, h2.symm⟩
theorem read_bo : Read1 enc P w base held .bo := by
  intro t fuel cs d ps ho ht hw
  obtain ⟨n, rfl⟩ := trod_one ht
  simp only [PT.ok] at ho
  split at ho
  case h_2 => cases ho
  next hu =>
  unfold DataW.trod at ht
  rw [hu] at ht
  split at ht <;> simp_all
  next _ b => exact ⟨rfl, [.imm (.bool b)], ⟨b, rfl⟩, reads_one rfl (.imm _ rfl)⟩
theorem wf_i64 {n : Int} (h : (Lit.int .i64 n).wf = true) : -9223372036854775808 ≤ n ∧ n ≤ 9223372036854775807 := by simpa [Lit.wf, IntKind.min, IntKind.max, IntKind.signed, IntKind.bits] using h
theorem read_nu : Read1 enc P w base held .nu := by
  intro t fuel cs d ps ho ht hw
  obtain ⟨n, rfl⟩ := trod_one ht
  simp only [PT.ok] at ho
  split at ho
  case h_2 => cases ho
  next hu =>
  unfold DataW.trod at ht
  rw [hu] at ht
  split at ht <;> simp_all
  next _ _ m he =>
  subst he
  exact ⟨rfl, [.imm (.int .i64 m)], ⟨m, rfl, wf_i64 ht.1.2⟩, reads_one rfl (.imm _ rfl)⟩
theorem read_tx : Read1 enc P w base held .tx := by
  intro t fuel cs d ps ho ht hw
  obtain ⟨n, rfl⟩ := trod_one ht
  simp only [PT.ok] at ho
  split at ho
  case h_2 => cases ho
  next hu =>
  unfold DataW.trod at ht
  rw [hu] at ht
  split at ht <;> simp_all
  next _ s =>
  obtain ⟨-, rfl, -⟩ := ht
  refine ⟨rfl, [.imm (.string s)], ⟨s, rfl, ?_⟩, reads_one rfl (.imm _ rfl)⟩
  have := hw s.data.toList.length (by simp [DataW.weights])
  simpa using this
theorem read_st {r : PT} (ih : Read2 enc P w base held r) : Read1 enc P w base held (.st r) := by
  intro t fuel cs d ps ho ht hw
  obtain ⟨n, rfl⟩ := trod_one ht
  simp only [PT.ok] at ho
  split at ho
  case h_2 => cases ho
  next fs hu =>
  simp only [Bool.and_eq_true, beq_iff_eq] at ho
  obtain ⟨hl, xs, h1, rfl⟩ := trod_st hu ht
  obtain ⟨l, k1, k2⟩ := ih fs.toList 0 n cs xs ho.1 h1 fun q hq => hw q (by simpa [DataW.weights, hu] using hq)
  exact ⟨by rw [hl, ho.2]; rfl, l, k1, k2⟩
theorem read_pair {a r : PT} (iha : Read1 enc P w base held a) (ihr : Read2 enc P w base held r) : Read2 enc P w base held (.pair a r) := by
  intro fs o fuel cs xs ho h hw
  match fs with
  | [] => simp [PT.ok] at ho
  | f :: fs =>
    simp only [PT.ok, Bool.and_eq_true, beq_iff_eq] at ho
    obtain ⟨⟨⟨h1, h2⟩, h3⟩, h4⟩ := ho
    rw [List.mapM_cons] at h
    cases hf : DataW.trod enc P w base (fun _ => true) held fuel f.type ((cs.drop f.offset).take (P.cellsOf f.type)) with
    | none => simp [hf] at h
    | some x =>
      cases hr : fs.mapM (fun f => DataW.trod enc P w base (fun _ => true) held fuel f.type ((cs.drop f.offset).take (P.cellsOf f.type))) with
      | none => simp [hf, hr] at h
      | some ys =>
        simp only [hf, hr, Option.pure_def, Option.bind_eq_bind, Option.bind_some, Option.some.injEq] at h
        subst h
        simp only [List.map_cons, DataW.weightsEach, List.mem_append] at hw
        obtain ⟨k1, l1, k2, k3⟩ := iha _ _ _ x.1 x.2 h3 hf fun q hq => hw q (.inl hq)
        obtain ⟨l2, k4, k5⟩ := ihr _ _ _ _ _ h4 hr fun q hq => hw q (.inr hq)
        refine ⟨l1 ++ l2, ⟨l1, l2, rfl, k2, k4⟩, fun j v b hv hb => ?_⟩
        by_cases hj : j < l1.length
        · rw [List.getElem?_append_left hj] at hb
          refine k3 j v b ?_ hb
          rw [k2.len] at hj
          rw [h1, h2, List.getElem?_take_of_lt hj]
          exact hv
        · rw [List.getElem?_append_right (by omega)] at hb
          refine k5 (j - l1.length) v b ?_ hb
          rw [k2.len] at hj ⊢
          rw [List.getElem?_drop] at hv ⊢
          rw [← hv]
          congr 1
          omega
theorem no2 {s : PT} (h : ∀ fs o, s.ok P (.inr (fs, o)) = false) : Read2 enc P w base held s := fun fs o fuel cs xs ho => by rw [h] at ho; cases ho
theorem no1 {s : PT} (h : ∀ t, s.ok P (.inl t) = false) : Read1 enc P w base held s := fun t fuel cs d ps ho => by rw [h] at ho; cases ho
theorem read_all : ∀ s : PT, Read1 enc P w base held s ∧ Read2 enc P w base held s
  | .bo => ⟨read_bo, no2 fun fs o => by simp [PT.ok]⟩
  | .nu => ⟨read_nu, no2 fun fs o => by simp [PT.ok]⟩
  | .tx => ⟨read_tx, no2 fun fs o => by simp [PT.ok]⟩
  | .sl e m => ⟨read_slice (read_all e).1, no2 fun fs o => by simp [PT.ok]⟩
  | .st r => ⟨read_st (read_all r).2, no2 fun fs o => by simp [PT.ok]⟩
  | .unit => ⟨no1 fun t => by simp [PT.ok], fun fs o fuel cs xs ho h hw => ⟨[], rfl, fun j v a _ h => by simp at h⟩⟩
  | .pair a r => ⟨no1 fun t => by simp [PT.ok], read_pair (read_all a).1 (read_all r).2⟩
end
end Go.Proofs.YtldnkeackphilaaGreatDoor
namespace Go.Proofs.YtldnkeackphilaaGreatDoor
open Go.RowKit
@[simp] theorem Tryz.sz3 : szP Tryz.prog 3 = 1 := by kernel_rfl
@[simp] theorem Tryz.row3 : isRowT Tryz.prog 3 = false := by kernel_rfl
@[simp] theorem Tryz.inf3 : infP Tryz.prog 3 = true := by kernel_rfl
@[simp] theorem Tryz.und3 : undP Tryz.prog 3 = true := by kernel_rfl
@[simp] theorem Tryz.kind3 : kindP Tryz.prog 3 = some .i64 := by kernel_rfl
@[simp] theorem Tryz.by3 : bytesP Tryz.prog 3 = 8 := by kernel_rfl
@[simp] theorem Tryz.zero3 : zeroP Tryz.prog 3 = some (.int .i64 0) := by kernel_rfl
@[simp] theorem Tryz.zok3 : zokP Tryz.prog 3 = true := by kernel_rfl
@[simp] theorem Tryz.zsz3 : zszP Tryz.prog 3 = true := zsz_of _ _ Tryz.zok3
@[simp] theorem Tryz.sz4 : szP Tryz.prog 4 = 1 := by kernel_rfl
@[simp] theorem Tryz.row4 : isRowT Tryz.prog 4 = false := by kernel_rfl
@[simp] theorem Tryz.inf4 : infP Tryz.prog 4 = true := by kernel_rfl
@[simp] theorem Tryz.und4 : undP Tryz.prog 4 = true := by kernel_rfl
@[simp] theorem Tryz.bool4 : boolP Tryz.prog 4 = true := by kernel_rfl
@[simp] theorem Tryz.sz9 : szP Tryz.prog 9 = 1 := by kernel_rfl
@[simp] theorem Tryz.row9 : isRowT Tryz.prog 9 = false := by kernel_rfl
@[simp] theorem Tryz.inf9 : infP Tryz.prog 9 = true := by kernel_rfl
@[simp] theorem Tryz.und9 : undP Tryz.prog 9 = true := by kernel_rfl
@[simp] theorem Tryz.str9 : strP Tryz.prog 9 = true := by kernel_rfl
@[simp] theorem Tryz.by9 : bytesP Tryz.prog 9 = 16 := by kernel_rfl
@[simp] theorem Tryz.zok9 : zokP Tryz.prog 9 = true := by kernel_rfl
@[simp] theorem Tryz.zsz9 : zszP Tryz.prog 9 = true := zsz_of _ _ Tryz.zok9
@[simp] theorem Tryz.sz22 : szP Tryz.prog 22 = 1 := by kernel_rfl
@[simp] theorem Tryz.row22 : isRowT Tryz.prog 22 = false := by kernel_rfl
@[simp] theorem Tryz.inf22 : infP Tryz.prog 22 = true := by kernel_rfl
@[simp] theorem Tryz.und22 : undP Tryz.prog 22 = true := by kernel_rfl
@[simp] theorem Tryz.by22 : bytesP Tryz.prog 22 = 24 := by kernel_rfl
@[simp] theorem Tryz.zok22 : zokP Tryz.prog 22 = true := by kernel_rfl
@[simp] theorem Tryz.zsz22 : zszP Tryz.prog 22 = true := zsz_of _ _ Tryz.zok22
@[simp] theorem Tryz.elem22 : elemP Tryz.prog 22 = some 63 := by kernel_rfl
@[simp] theorem Tryz.sz23 : szP Tryz.prog 23 = 1 := by kernel_rfl
@[simp] theorem Tryz.row23 : isRowT Tryz.prog 23 = false := by kernel_rfl
@[simp] theorem Tryz.inf23 : infP Tryz.prog 23 = true := by kernel_rfl
@[simp] theorem Tryz.und23 : undP Tryz.prog 23 = true := by kernel_rfl
@[simp] theorem Tryz.elem23 : elemP Tryz.prog 23 = some 22 := by kernel_rfl
@[simp] theorem Tryz.sz25 : szP Tryz.prog 25 = 2 := by kernel_rfl
@[simp] theorem Tryz.row25 : isRowT Tryz.prog 25 = true := by kernel_rfl
@[simp] theorem Tryz.inf25 : infP Tryz.prog 25 = true := by kernel_rfl
@[simp] theorem Tryz.zpl25 : zplP Tryz.prog 25 = some ([.slice none 0 0, .slice none 0 0], [(0, 1), (1, 1)]) := by kernel_rfl
@[simp] theorem Tryz.fld25_0 : fldP Tryz.prog 25 0 = some (0, 22) := by kernel_rfl
@[simp] theorem Tryz.fld25_1 : fldP Tryz.prog 25 1 = some (1, 23) := by kernel_rfl
@[simp] theorem Tryz.zero25 : zeroP Tryz.prog 25 = some (.agg #[.slice none 0 0, .slice none 0 0]) := by kernel_rfl
@[simp] theorem Tryz.sz28 : szP Tryz.prog 28 = 1 := by kernel_rfl
@[simp] theorem Tryz.row28 : isRowT Tryz.prog 28 = false := by kernel_rfl
@[simp] theorem Tryz.inf28 : infP Tryz.prog 28 = true := by kernel_rfl
@[simp] theorem Tryz.und28 : undP Tryz.prog 28 = true := by kernel_rfl
@[simp] theorem Tryz.elem28 : elemP Tryz.prog 28 = some 66 := by kernel_rfl
@[simp] theorem Tryz.sz30 : szP Tryz.prog 30 = 1 := by kernel_rfl
@[simp] theorem Tryz.row30 : isRowT Tryz.prog 30 = true := by kernel_rfl
@[simp] theorem Tryz.inf30 : infP Tryz.prog 30 = true := by kernel_rfl
@[simp] theorem Tryz.zpl30 : zplP Tryz.prog 30 = some ([.slice none 0 0], [(0, 1)]) := by kernel_rfl
@[simp] theorem Tryz.fld30_0 : fldP Tryz.prog 30 0 = some (0, 28) := by kernel_rfl
@[simp] theorem Tryz.zero30 : zeroP Tryz.prog 30 = some (.agg #[.slice none 0 0]) := by kernel_rfl
@[simp] theorem Tryz.sz31 : szP Tryz.prog 31 = 1 := by kernel_rfl
@[simp] theorem Tryz.row31 : isRowT Tryz.prog 31 = false := by kernel_rfl
@[simp] theorem Tryz.inf31 : infP Tryz.prog 31 = true := by kernel_rfl
@[simp] theorem Tryz.und31 : undP Tryz.prog 31 = true := by kernel_rfl
@[simp] theorem Tryz.elem31 : elemP Tryz.prog 31 = some 3 := by kernel_rfl
@[simp] theorem Tryz.sz32 : szP Tryz.prog 32 = 1 := by kernel_rfl
@[simp] theorem Tryz.row32 : isRowT Tryz.prog 32 = false := by kernel_rfl
@[simp] theorem Tryz.und32 : undP Tryz.prog 32 = true := by kernel_rfl
@[simp] theorem Tryz.sz36 : szP Tryz.prog 36 = 1 := by kernel_rfl
@[simp] theorem Tryz.row36 : isRowT Tryz.prog 36 = false := by kernel_rfl
@[simp] theorem Tryz.und36 : undP Tryz.prog 36 = true := by kernel_rfl
@[simp] theorem Tryz.kind36 : kindP Tryz.prog 36 = some .i64 := by kernel_rfl
@[simp] theorem Tryz.sz44 : szP Tryz.prog 44 = 1 := by kernel_rfl
@[simp] theorem Tryz.row44 : isRowT Tryz.prog 44 = false := by kernel_rfl
@[simp] theorem Tryz.und44 : undP Tryz.prog 44 = true := by kernel_rfl
@[simp] theorem Tryz.ifc44 : ifcP Tryz.prog 44 = true := by kernel_rfl
@[simp] theorem Tryz.sz53 : szP Tryz.prog 53 = 1 := by kernel_rfl
@[simp] theorem Tryz.row53 : isRowT Tryz.prog 53 = false := by kernel_rfl
@[simp] theorem Tryz.inf53 : infP Tryz.prog 53 = true := by kernel_rfl
@[simp] theorem Tryz.und53 : undP Tryz.prog 53 = true := by kernel_rfl
@[simp] theorem Tryz.sz54 : szP Tryz.prog 54 = 1 := by kernel_rfl
@[simp] theorem Tryz.row54 : isRowT Tryz.prog 54 = false := by kernel_rfl
@[simp] theorem Tryz.und54 : undP Tryz.prog 54 = true := by kernel_rfl
@[simp] theorem Tryz.sz55 : szP Tryz.prog 55 = 1 := by kernel_rfl
@[simp] theorem Tryz.row55 : isRowT Tryz.prog 55 = false := by kernel_rfl
@[simp] theorem Tryz.und55 : undP Tryz.prog 55 = true := by kernel_rfl
@[simp] theorem Tryz.kind55 : kindP Tryz.prog 55 = some .i64 := by kernel_rfl
@[simp] theorem Tryz.sz57 : szP Tryz.prog 57 = 4 := by kernel_rfl
@[simp] theorem Tryz.row57 : isRowT Tryz.prog 57 = true := by kernel_rfl
@[simp] theorem Tryz.inf57 : infP Tryz.prog 57 = true := by kernel_rfl
@[simp] theorem Tryz.eq57 : eqTP Tryz.prog 57 = true := by kernel_rfl
@[simp] theorem Tryz.typs57 : typsP Tryz.prog 57 = [55, 36, 9, 3] := by kernel_rfl
@[simp] theorem Tryz.zpl57 : zplP Tryz.prog 57 = some ([.int .i64 0, .int .i64 0, .string ⟨#[]⟩, .int .i64 0], [(0, 1), (1, 1), (2, 1), (3, 1)]) := by kernel_rfl
@[simp] theorem Tryz.fld57_0 : fldP Tryz.prog 57 0 = some (0, 55) := by kernel_rfl
@[simp] theorem Tryz.fld57_1 : fldP Tryz.prog 57 1 = some (1, 36) := by kernel_rfl
@[simp] theorem Tryz.fld57_2 : fldP Tryz.prog 57 2 = some (2, 9) := by kernel_rfl
@[simp] theorem Tryz.fld57_3 : fldP Tryz.prog 57 3 = some (3, 3) := by kernel_rfl
@[simp] theorem Tryz.zero57 : zeroP Tryz.prog 57 = some (.agg #[.int .i64 0, .int .i64 0, .string ⟨#[]⟩, .int .i64 0]) := by kernel_rfl
@[simp] theorem Tryz.sz58 : szP Tryz.prog 58 = 1 := by kernel_rfl
@[simp] theorem Tryz.row58 : isRowT Tryz.prog 58 = false := by kernel_rfl
@[simp] theorem Tryz.inf58 : infP Tryz.prog 58 = true := by kernel_rfl
@[simp] theorem Tryz.und58 : undP Tryz.prog 58 = true := by kernel_rfl
@[simp] theorem Tryz.sz59 : szP Tryz.prog 59 = 1 := by kernel_rfl
@[simp] theorem Tryz.row59 : isRowT Tryz.prog 59 = false := by kernel_rfl
@[simp] theorem Tryz.inf59 : infP Tryz.prog 59 = true := by kernel_rfl
@[simp] theorem Tryz.und59 : undP Tryz.prog 59 = true := by kernel_rfl
@[simp] theorem Tryz.elem59 : elemP Tryz.prog 59 = some 9 := by kernel_rfl
@[simp] theorem Tryz.sz61 : szP Tryz.prog 61 = 16 := by kernel_rfl
@[simp] theorem Tryz.row61 : isRowT Tryz.prog 61 = true := by kernel_rfl
@[simp] theorem Tryz.inf61 : infP Tryz.prog 61 = true := by kernel_rfl
@[simp] theorem Tryz.zpl61 : zplP Tryz.prog 61 = some ([.int .i64 0, .int .i64 0, .int .i64 0, .string ⟨#[]⟩, .int .i64 0, .int .i64 0, .int .i64 0, .slice none 0 0, .slice none 0 0, .int .i64 0, .int .i64 0, .string ⟨#[]⟩, .int .i64 0, .int .i64 0, .string ⟨#[]⟩, .int .i64 0], [(0, 1), (1, 4), (5, 1), (6, 1), (7, 1), (8, 1), (9, 4), (13, 1), (14, 1), (15, 1)]) := by kernel_rfl
@[simp] theorem Tryz.fld61_0 : fldP Tryz.prog 61 0 = some (0, 54) := by kernel_rfl
@[simp] theorem Tryz.fld61_1 : fldP Tryz.prog 61 1 = some (1, 57) := by kernel_rfl
@[simp] theorem Tryz.fld61_2 : fldP Tryz.prog 61 2 = some (5, 58) := by kernel_rfl
@[simp] theorem Tryz.fld61_3 : fldP Tryz.prog 61 3 = some (6, 3) := by kernel_rfl
@[simp] theorem Tryz.fld61_4 : fldP Tryz.prog 61 4 = some (7, 59) := by kernel_rfl
@[simp] theorem Tryz.fld61_5 : fldP Tryz.prog 61 5 = some (8, 31) := by kernel_rfl
@[simp] theorem Tryz.fld61_6 : fldP Tryz.prog 61 6 = some (9, 57) := by kernel_rfl
@[simp] theorem Tryz.fld61_7 : fldP Tryz.prog 61 7 = some (13, 36) := by kernel_rfl
@[simp] theorem Tryz.fld61_8 : fldP Tryz.prog 61 8 = some (14, 9) := by kernel_rfl
@[simp] theorem Tryz.fld61_9 : fldP Tryz.prog 61 9 = some (15, 3) := by kernel_rfl
@[simp] theorem Tryz.zero61 : zeroP Tryz.prog 61 = some (.agg #[.int .i64 0, .int .i64 0, .int .i64 0, .string ⟨#[]⟩, .int .i64 0, .int .i64 0, .int .i64 0, .slice none 0 0, .slice none 0 0, .int .i64 0, .int .i64 0, .string ⟨#[]⟩, .int .i64 0, .int .i64 0, .string ⟨#[]⟩, .int .i64 0]) := by kernel_rfl
@[simp] theorem Tryz.sz63 : szP Tryz.prog 63 = 19 := by kernel_rfl
@[simp] theorem Tryz.row63 : isRowT Tryz.prog 63 = true := by kernel_rfl
@[simp] theorem Tryz.inf63 : infP Tryz.prog 63 = true := by kernel_rfl
@[simp] theorem Tryz.zpl63 : zplP Tryz.prog 63 = some ([.int .i64 0, .bool false, .int .i64 0, .int .i64 0, .int .i64 0, .string ⟨#[]⟩, .int .i64 0, .int .i64 0, .int .i64 0, .slice none 0 0, .slice none 0 0, .int .i64 0, .int .i64 0, .string ⟨#[]⟩, .int .i64 0, .int .i64 0, .string ⟨#[]⟩, .int .i64 0, .slice none 0 0], [(0, 1), (1, 1), (2, 16), (18, 1)]) := by kernel_rfl
@[simp] theorem Tryz.fld63_0 : fldP Tryz.prog 63 0 = some (0, 53) := by kernel_rfl
@[simp] theorem Tryz.fld63_1 : fldP Tryz.prog 63 1 = some (1, 4) := by kernel_rfl
@[simp] theorem Tryz.fld63_2 : fldP Tryz.prog 63 2 = some (2, 61) := by kernel_rfl
@[simp] theorem Tryz.fld63_3 : fldP Tryz.prog 63 3 = some (18, 31) := by kernel_rfl
@[simp] theorem Tryz.by63 : bytesP Tryz.prog 63 = 224 := by kernel_rfl
@[simp] theorem Tryz.zero63 : zeroP Tryz.prog 63 = some (.agg #[.int .i64 0, .bool false, .int .i64 0, .int .i64 0, .int .i64 0, .string ⟨#[]⟩, .int .i64 0, .int .i64 0, .int .i64 0, .slice none 0 0, .slice none 0 0, .int .i64 0, .int .i64 0, .string ⟨#[]⟩, .int .i64 0, .int .i64 0, .string ⟨#[]⟩, .int .i64 0, .slice none 0 0]) := by kernel_rfl
@[simp] theorem Tryz.zok63 : zokP Tryz.prog 63 = true := by kernel_rfl
@[simp] theorem Tryz.zsz63 : zszP Tryz.prog 63 = true := zsz_of _ _ Tryz.zok63
@[simp] theorem Tryz.sz64 : szP Tryz.prog 64 = 1 := by kernel_rfl
@[simp] theorem Tryz.row64 : isRowT Tryz.prog 64 = false := by kernel_rfl
@[simp] theorem Tryz.und64 : undP Tryz.prog 64 = true := by kernel_rfl
@[simp] theorem Tryz.sz66 : szP Tryz.prog 66 = 4 := by kernel_rfl
@[simp] theorem Tryz.row66 : isRowT Tryz.prog 66 = true := by kernel_rfl
@[simp] theorem Tryz.inf66 : infP Tryz.prog 66 = true := by kernel_rfl
@[simp] theorem Tryz.zpl66 : zplP Tryz.prog 66 = some ([.int .i64 0, .string ⟨#[]⟩, .int .i64 0, .slice none 0 0], [(0, 1), (1, 1), (2, 1), (3, 1)]) := by kernel_rfl
@[simp] theorem Tryz.fld66_0 : fldP Tryz.prog 66 0 = some (0, 64) := by kernel_rfl
@[simp] theorem Tryz.fld66_1 : fldP Tryz.prog 66 1 = some (1, 9) := by kernel_rfl
@[simp] theorem Tryz.fld66_2 : fldP Tryz.prog 66 2 = some (2, 3) := by kernel_rfl
@[simp] theorem Tryz.fld66_3 : fldP Tryz.prog 66 3 = some (3, 31) := by kernel_rfl
@[simp] theorem Tryz.by66 : bytesP Tryz.prog 66 = 56 := by kernel_rfl
@[simp] theorem Tryz.zero66 : zeroP Tryz.prog 66 = some (.agg #[.int .i64 0, .string ⟨#[]⟩, .int .i64 0, .slice none 0 0]) := by kernel_rfl
@[simp] theorem Tryz.zok66 : zokP Tryz.prog 66 = true := by kernel_rfl
@[simp] theorem Tryz.zsz66 : zszP Tryz.prog 66 = true := zsz_of _ _ Tryz.zok66
@[simp] theorem Tryz.zpl94 : zplP Tryz.prog 94 = some ([.int .i64 0, .bool false], [(0, 1), (1, 1)]) := by kernel_rfl
@[simp] theorem Tryz.fld94_0 : fldP Tryz.prog 94 0 = some (0, 3) := by kernel_rfl
@[simp] theorem Tryz.fld94_1 : fldP Tryz.prog 94 1 = some (1, 4) := by kernel_rfl
@[simp] theorem Tryz.zpl98 : zplP Tryz.prog 98 = some ([.slice none 0 0], [(0, 1)]) := by kernel_rfl
@[simp] theorem Tryz.fld98_0 : fldP Tryz.prog 98 0 = some (0, 28) := by kernel_rfl
@[simp] theorem Tryz.sz99 : szP Tryz.prog 99 = 1 := by kernel_rfl
@[simp] theorem Tryz.row99 : isRowT Tryz.prog 99 = false := by kernel_rfl
@[simp] theorem Tryz.inf99 : infP Tryz.prog 99 = true := by kernel_rfl
@[simp] theorem Tryz.und99 : undP Tryz.prog 99 = true := by kernel_rfl
@[simp] theorem Tryz.ptr99 : ptrP Tryz.prog 99 = true := by kernel_rfl
@[simp] theorem Tryz.by99 : bytesP Tryz.prog 99 = 8 := by kernel_rfl
@[simp] theorem Tryz.zok99 : zokP Tryz.prog 99 = true := by kernel_rfl
@[simp] theorem Tryz.zsz99 : zszP Tryz.prog 99 = true := zsz_of _ _ Tryz.zok99
@[simp] theorem Tryz.zpl104 : zplP Tryz.prog 104 = some ([.slice none 0 0], [(0, 1)]) := by kernel_rfl
@[simp] theorem Tryz.fld104_0 : fldP Tryz.prog 104 0 = some (0, 23) := by kernel_rfl
@[simp] theorem Tryz.row114 : isRowT Tryz.prog 114 = false := by kernel_rfl
@[simp] theorem Tryz.und114 : undP Tryz.prog 114 = true := by kernel_rfl
@[simp] theorem Tryz.ptr114 : ptrP Tryz.prog 114 = true := by kernel_rfl
@[simp] theorem Tryz.ifc114 : ifcP Tryz.prog 114 = false := by kernel_rfl
@[simp] theorem Tryz.zero114 : zeroP Tryz.prog 114 = some (.pointer none) := by kernel_rfl
@[simp] theorem Tryz.und116 : undP Tryz.prog 116 = true := by kernel_rfl
@[simp] theorem Tryz.ifc116 : ifcP Tryz.prog 116 = false := by kernel_rfl
@[simp] theorem Tryz.fld118_0 : fldP Tryz.prog 118 0 = some (0, 32) := by kernel_rfl
@[simp] theorem Tryz.fld118_3 : fldP Tryz.prog 118 3 = some (3, 44) := by kernel_rfl
@[simp] theorem Tryz.sz164 : szP Tryz.prog 164 = 1 := by kernel_rfl
@[simp] theorem Tryz.row164 : isRowT Tryz.prog 164 = false := by kernel_rfl
@[simp] theorem Tryz.und164 : undP Tryz.prog 164 = true := by kernel_rfl
@[simp] theorem Tryz.elem164 : elemP Tryz.prog 164 = some 99 := by kernel_rfl
@[simp] theorem Tryz.zpl170 : zplP Tryz.prog 170 = some ([.int .i64 0, .bool false, .int .i64 0, .int .i64 0, .int .i64 0, .string ⟨#[]⟩, .int .i64 0, .int .i64 0, .int .i64 0, .slice none 0 0, .slice none 0 0, .int .i64 0, .int .i64 0, .string ⟨#[]⟩, .int .i64 0, .int .i64 0, .string ⟨#[]⟩, .int .i64 0, .slice none 0 0, .pointer none], [(0, 1), (1, 1), (2, 16), (18, 1), (19, 1)]) := by kernel_rfl
@[simp] theorem Tryz.fld170_0 : fldP Tryz.prog 170 0 = some (0, 53) := by kernel_rfl
@[simp] theorem Tryz.fld170_1 : fldP Tryz.prog 170 1 = some (1, 4) := by kernel_rfl
@[simp] theorem Tryz.fld170_2 : fldP Tryz.prog 170 2 = some (2, 61) := by kernel_rfl
@[simp] theorem Tryz.fld170_3 : fldP Tryz.prog 170 3 = some (18, 164) := by kernel_rfl
@[simp] theorem Tryz.fld170_4 : fldP Tryz.prog 170 4 = some (19, 99) := by kernel_rfl
@[simp] theorem Tryz.sz210 : szP Tryz.prog 210 = 9 := by kernel_rfl
@[simp] theorem Tryz.row210 : isRowT Tryz.prog 210 = true := by kernel_rfl
@[simp] theorem Tryz.inf210 : infP Tryz.prog 210 = true := by kernel_rfl
@[simp] theorem Tryz.zpl210 : zplP Tryz.prog 210 = some ([.int .i64 0, .bool false, .string ⟨#[]⟩, .int .i64 0, .int .i64 0, .int .i64 0, .string ⟨#[]⟩, .int .i64 0, .pointer none], [(0, 1), (1, 1), (2, 1), (3, 1), (4, 4), (8, 1)]) := by kernel_rfl
@[simp] theorem Tryz.fld210_0 : fldP Tryz.prog 210 0 = some (0, 3) := by kernel_rfl
@[simp] theorem Tryz.fld210_1 : fldP Tryz.prog 210 1 = some (1, 4) := by kernel_rfl
@[simp] theorem Tryz.fld210_2 : fldP Tryz.prog 210 2 = some (2, 9) := by kernel_rfl
@[simp] theorem Tryz.fld210_3 : fldP Tryz.prog 210 3 = some (3, 3) := by kernel_rfl
@[simp] theorem Tryz.fld210_4 : fldP Tryz.prog 210 4 = some (4, 57) := by kernel_rfl
@[simp] theorem Tryz.fld210_5 : fldP Tryz.prog 210 5 = some (8, 99) := by kernel_rfl
@[simp] theorem Tryz.zero210 : zeroP Tryz.prog 210 = some (.agg #[.int .i64 0, .bool false, .string ⟨#[]⟩, .int .i64 0, .int .i64 0, .int .i64 0, .string ⟨#[]⟩, .int .i64 0, .pointer none]) := by kernel_rfl
end Go.Proofs.YtldnkeackphilaaGreatDoor
namespace Go.Proofs.YtldnkeackphilaaGreatDoor

inductive Tr where
  | mk (kind : Int) (neg : Bool) (lit : LitD) (kids : List Tr) (sel : Option Tr)
def Tr.kind : Tr → Int | .mk k _ _ _ _ => k
def Tr.neg : Tr → Bool | .mk _ n _ _ _ => n
def Tr.lt : Tr → LitD | .mk _ _ l _ _ => l
def Tr.kids : Tr → List Tr | .mk _ _ _ k _ => k
def Tr.sel : Tr → Option Tr | .mk _ _ _ _ s => s
def Tr.leaf (k : Int) : Tr := .mk k false .zero [] none
def Tr.lit (l : LitD) (s : Int) (sel : Option Tr) : Tr := .mk 5 (s == 1) l [] sel
def truthF (b : Bool) (s : Int) : Tr := if b = (s == 0) then .leaf 1 else .leaf 2
def joinF (kind : Int) (kids : List Tr) : Tr :=
  let win : Int := if kind = 4 then 1 else 2
  let drop : Int := if kind = 4 then 2 else 1
  if kids.any (fun t => decide (t.kind = win)) then .leaf win else
  match kids.filter (fun t => decide (t.kind ≠ drop)) with
  | [] => .leaf drop
  | [t] => t
  | l => .mk kind false .zero l none
structure OpdD where
  step : Int
  num : Bool
  text : ByteArray
  n : Int
  term : TermD
  sel : Option Tr
def standsF (a b : OpdD) (cmp : Int) : Bool :=
  if cmp = 1 then decide (a.text = b.text) && decide (a.n = b.n)
  else if cmp = 3 then decide (a.n < b.n) else if cmp = 4 then decide (a.n ≤ b.n) else if cmp = 5 then decide (b.n < a.n) else decide (b.n ≤ a.n)
def turnF (c : Int) : Int := if c = 3 then 5 else if c = 4 then 6 else if c = 5 then 3 else if c = 6 then 4 else c
def againstL (t c : OpdD) (cmp : Int) : LitD :=
  if cmp = 1 then (if c.num then { LitD.zero with kind := 1, term := t.term, nums := [c.n] } else { LitD.zero with kind := 1, term := t.term, texts := [c.text] })
  else if cmp = 4 then { LitD.zero with kind := 2, term := t.term, rel := 4, num := c.n }
  else if cmp = 6 then { LitD.zero with kind := 2, term := t.term, rel := 6, num := c.n }
  else if cmp = 3 then { LitD.zero with kind := 2, term := t.term, rel := 4, num := c.n - 1 }
  else if cmp = 5 then { LitD.zero with kind := 2, term := t.term, rel := 6, num := c.n + 1 }
  else { LitD.zero with kind := 2, term := t.term, num := c.n }
def againstF (t c : OpdD) (cmp s : Int) : Tr := .lit (againstL t c cmp) s t.sel
def keyTermF (x : OpdD) : TermD := if x.step = 0 then ⟨1, 0, x.text, 0⟩ else x.term
mutual
def treeA : Tr → AV
  | .mk k neg l kids sel => .ptr (iA k :: bA neg :: (litCs l ++ [.sl (kidsA kids), selA sel]))
def kidsA : List Tr → List (List AV)
  | [] => []
  | t :: r => [treeA t] :: kidsA r
def selA : Option Tr → AV
  | none => .imm (.pointer none)
  | some t => treeA t
end
theorem kids_map : ∀ l : List Tr, kidsA l = l.map fun t => [treeA t]
  | [] => by simp [kidsA]
  | t :: r => by simp [kidsA, kids_map r]
def treeCs (k : Int) (neg : Bool) (l : LitD) (kids : List Tr) (sel : AV) : List AV := [iA k, bA neg, iA l.kind, iA l.term.kind, iA l.term.side, sA l.term.key, iA l.term.sel, iA l.rel, iA l.num, strsA l.texts, intsA l.nums, iA l.other.kind, iA l.other.side, sA l.other.key, iA l.other.sel, iA l.of_, sA l.key, iA l.sel, .sl (kids.map fun t => [treeA t]), sel]
theorem tree_eq (t : Tr) : treeA t = .ptr (treeCs t.kind t.neg t.lt t.kids (selA t.sel)) := by
  obtain ⟨k, neg, l, kids, sel⟩ := t
  simp [treeA, treeCs, litCs, kids_map, Tr.kind, Tr.neg, Tr.lt, Tr.kids, Tr.sel]
theorem tree_mk (k : Int) (neg : Bool) (l : LitD) (kids : List Tr) (sel : Option Tr) : treeA (.mk k neg l kids sel) = .ptr (treeCs k neg l kids (selA sel)) := tree_eq _
theorem selA_none : selA none = .imm (.pointer none) := by simp [selA]
theorem selA_some (t : Tr) : selA (some t) = treeA t := by simp [selA]
def OpdD.cs (x : OpdD) : List AV := [iA x.step, bA x.num, sA x.text, iA x.n, iA x.term.kind, iA x.term.side, sA x.term.key, iA x.term.sel, selA x.sel]
end Go.Proofs.YtldnkeackphilaaGreatDoor
namespace Go.Proofs.YtldnkeackphilaaGreatDoor.X
open Go.RowKit
@[simp] theorem tr_unC (t : Tr) : unC' (treeA t) = (treeA t) := by rw [tree_eq] <;> (first | rfl | simp)
@[simp] theorem sel_unC (o : Option Tr) : unC' (selA o) = (selA o) := by cases o <;> simp only [selA_none, selA_some, tree_eq] <;> (first | rfl | simp)
@[simp] theorem tr_okV (t : Tr) : okV true (treeA t) = True := by rw [tree_eq] <;> (first | rfl | simp)
@[simp] theorem sel_okV (o : Option Tr) : okV true (selA o) = True := by cases o <;> simp only [selA_none, selA_some, tree_eq] <;> (first | rfl | simp)
@[simp] theorem tr_trimA (t : Tr) : trimA (treeA t) = (treeA t) := by rw [tree_eq] <;> (first | rfl | simp)
@[simp] theorem tr_pureA (t : Tr) : pureA (treeA t) = true := by rw [tree_eq] <;> (first | rfl | simp)
@[simp] theorem sel_pureA (o : Option Tr) : pureA (selA o) = true := by cases o <;> simp only [selA_none, selA_some, tree_eq] <;> (first | rfl | simp)
@[simp] theorem tr_fixA (t : Tr) : fixA (treeA t) = (treeA t) := by rw [tree_eq] <;> (first | rfl | simp)
@[simp] theorem sel_fixA (o : Option Tr) : fixA (selA o) = (selA o) := by cases o <;> simp only [selA_none, selA_some, tree_eq] <;> (first | rfl | simp)
@[simp] theorem tr_refsA (t : Tr) : refsA (treeA t) = [] := by rw [tree_eq] <;> (first | rfl | simp)
@[simp] theorem sel_refsA (o : Option Tr) : refsA (selA o) = [] := by cases o <;> simp only [selA_none, selA_some, tree_eq] <;> (first | rfl | simp)
@[simp] theorem tr_cells (t : Tr) : AV.cells (treeA t) = [(treeA t)] := by rw [tree_eq] <;> (first | rfl | simp)
@[simp] theorem sel_cells (o : Option Tr) : AV.cells (selA o) = [(selA o)] := by cases o <;> simp only [selA_none, selA_some, tree_eq] <;> (first | rfl | simp)
@[simp] theorem tr_whole (t : Tr) : AV.whole (treeA t) = true := by rw [tree_eq] <;> (first | rfl | simp)
@[simp] theorem sel_whole (o : Option Tr) : AV.whole (selA o) = true := by cases o <;> simp only [selA_none, selA_some, tree_eq] <;> (first | rfl | simp)
@[simp] theorem tr_shared (t : Tr) : AV.shared (treeA t) = true := by rw [tree_eq] <;> (first | rfl | simp)
@[simp] theorem tr_final (t : Tr) : AV.final (treeA t) = true := by rw [tree_eq] <;> (first | rfl | simp)
@[simp] theorem tr_renA (σ : Nat → Nat) (t : Tr) : renA σ (treeA t) = treeA t := by rw [tree_eq]; simp
@[simp] theorem sel_renA (σ : Nat → Nat) (o : Option Tr) : renA σ (selA o) = selA o := by cases o <;> simp [selA_none, selA_some]
@[simp] theorem tr_subA (n : Nat) (B : Blk) (t : Tr) : subA n B (treeA t) = treeA t := by rw [tree_eq]; simp
@[simp] theorem sel_subA (n : Nat) (B : Blk) (o : Option Tr) : subA n B (selA o) = selA o := by cases o <;> simp [selA_none, selA_some]
@[simp] theorem tr_relA (σ : List (Nat × Nat)) (t : Tr) : relA σ (treeA t) = treeA t := by rw [tree_eq]; simp
@[simp] theorem tr_adrC (t : Tr) : adrC (treeA t) = True := by rw [tree_eq]; rfl
@[simp] theorem tr_fadA (o : Nat) (T : TypeId) (t : Tr) : fadA (some (o, T)) (treeA t) = .ptr ((treeCs t.kind t.neg t.lt t.kids (selA t.sel)).drop o) := by rw [tree_eq]; rfl
@[simp] theorem sel_binX (op : BinOp) (o : Option Tr) : binX op (selA o) (.imm (.pointer none)) = eqlA op o.isNone := by cases o <;> simp [selA_none, selA_some, tree_eq]
@[simp] theorem sel_binXC (P : Program) (op : BinOp) (T : TypeId) (c : Bool) (o : Option Tr) : binXC P op T c (selA o) (.imm (.pointer none)) = (eqlC op ∧ ptrP P T = true) := by cases o <;> simp [selA_none, selA_some, tree_eq]
end Go.Proofs.YtldnkeackphilaaGreatDoor.X
namespace Go.Proofs.YtldnkeackphilaaGreatDoor
open Go.RowKit

def isCondF (k : Int) : Bool := decide (1 ≤ k) && decide (k ≤ 10)
theorem isCond_c (k : Int) (w : World) : Calls Tryz.prog 130 #[.int .i64 k] w fun e w' => e = .returned (.bool (isCondF k)) ∧ w' = w := by
  go_enter Tryz.func130, Tryz.ntmps130
  go_wp2
  all_goals (go_ret; exact ⟨ret_b (by rw [Bool.eq_iff_iff]; simp_all [isCondF]; try omega), rfl⟩)
def isTermF (k : Int) : Bool := decide (11 ≤ k) && decide (k ≤ 20)
theorem isTerm_c (k : Int) (w : World) : Calls Tryz.prog 184 #[.int .i64 k] w fun e w' => e = .returned (.bool (isTermF k)) ∧ w' = w := by
  go_enter Tryz.func184, Tryz.ntmps184
  go_wp2
  all_goals (go_ret; exact ⟨ret_b (by rw [Bool.eq_iff_iff]; simp_all [isTermF]; try omega), rfl⟩)
def kidCountF (k n : Int) : Bool :=
  if k = 3 ∨ k = 8 ∨ k = 9 ∨ k = 19 ∨ k = 20 then n == 1 else if k = 4 ∨ k = 5 then decide (2 ≤ n) else if k = 6 ∨ k = 7 then n == 2 else if k = 13 then decide (n ≤ 64) else n == 0
theorem kidCount_c (k n : Int) (w : World) : Calls Tryz.prog 183 #[.int .i64 k, .int .i64 n] w fun e w' => e = .returned (.bool (kidCountF k n)) ∧ w' = w := by
  go_enter Tryz.func183, Tryz.ntmps183
  go_wp2
  all_goals (go_ret; exact ⟨ret_b (by rw [Bool.eq_iff_iff]; simp_all [kidCountF]; try omega), rfl⟩)
def usesTextF (k : Int) : Bool := decide (k = 8 ∨ k = 9 ∨ k = 10 ∨ k = 11 ∨ k = 14 ∨ k = 18 ∨ k = 20)
theorem usesText_c (k : Int) (w : World) : Calls Tryz.prog 181 #[.int .i64 k] w fun e w' => e = .returned (.bool (usesTextF k)) ∧ w' = w := by
  go_enter Tryz.func181, Tryz.ntmps181
  go_wp2
  all_goals (go_ret; exact ⟨ret_b (by rw [Bool.eq_iff_iff]; simp_all [usesTextF]; try omega), rfl⟩)
def numFitsF (k n : Int) : Bool :=
  if k = 6 then decide (1 ≤ n ∧ n ≤ 6) else if k = 7 then decide (n = 0 ∨ n = 1) else if k = 12 then decide (-999999999999999999 ≤ n ∧ n ≤ 999999999999999999) else if k = 14 ∨ k = 15 ∨ k = 16 ∨ k = 17 ∨ k = 18 then decide (1 ≤ n ∧ n ≤ 3) else n == 0
theorem numFits_c (k n : Int) (w : World) : Calls Tryz.prog 182 #[.int .i64 k, .int .i64 n] w fun e w' => e = .returned (.bool (numFitsF k n)) ∧ w' = w := by
  go_enter Tryz.func182, Tryz.ntmps182
  go_wp2
  all_goals (go_ret; exact ⟨ret_b (by rw [Bool.eq_iff_iff]; simp_all [numFitsF]; try omega), rfl⟩)
def kidFitsF (k d : Int) : Bool := if k = 3 ∨ k = 4 ∨ k = 5 ∨ k = 8 ∨ k = 9 ∨ k = 20 then isCondF d else if k = 13 then decide (d = 11 ∨ d = 12) else isTermF d
theorem kidFits_c (k d : Int) (w : World) : Calls Tryz.prog 129 #[.int .i64 k, .int .i64 d] w fun e w' => e = .returned (.bool (kidFitsF k d)) ∧ w' = w := by
  go_enter Tryz.func129, Tryz.ntmps129
  go_wp2_with (first | (go_at_call 130; refine (isCond_c _ _).mono ?_; rintro e w' ⟨rfl, rfl⟩) | (go_at_call 184; refine (isTerm_c _ _).mono ?_; rintro e w' ⟨rfl, rfl⟩))
  all_goals (go_ret; exact ⟨ret_b (by rw [Bool.eq_iff_iff]; simp_all [kidFitsF]; try omega), rfl⟩)
def bracketedF (k d : Int) : Bool := if k = 3 ∨ k = 4 then decide (d = 4 ∨ d = 5) else if k = 5 then d == 5 else false
theorem bracketed_c (k d : Int) (w : World) : Calls Tryz.prog 131 #[.int .i64 k, .int .i64 d] w fun e w' => e = .returned (.bool (bracketedF k d)) ∧ w' = w := by
  go_enter Tryz.func131, Tryz.ntmps131
  go_wp2
  all_goals (go_ret; exact ⟨ret_b (by rw [Bool.eq_iff_iff]; simp_all [bracketedF]; try omega), rfl⟩)
end Go.Proofs.YtldnkeackphilaaGreatDoor
namespace Go.Proofs.YtldnkeackphilaaGreatDoor
open Go.RowKit

def partFitsF (p : Part) : Bool :=
  decide (1 ≤ p.kind) && decide (p.kind ≤ 20) && decide (p.text.size ≤ 127) && (p.text.toList.isEmpty || usesTextF p.kind) && numFitsF p.kind p.num && kidCountF p.kind p.kids.length
set_option maxHeartbeats 400000 in
theorem partFits_c (p : Part) (kv : Value) (w : World) (hp : PartR w p kv) : Calls Tryz.prog 128 #[.agg #[.int .i64 p.kind, .string p.text, .int .i64 p.num, kv]] w fun e w' => e = .returned (.bool (partFitsF p)) ∧ w' = w.alloc (.cells #[.int .i64 p.kind, .string p.text, .int .i64 p.num, kv] 66) := by
  obtain ⟨h1, h2, h3, A, c, rfl, h4, h5⟩ := hp
  obtain ⟨kind, text, num, kids⟩ := p
  clear h5
  go_enter Tryz.func128, Tryz.ntmps128
  go_wp2_with (first | (go_at_call 181; refine (usesText_c _ _).mono ?_; rintro e w' ⟨rfl, rfl⟩) | (go_at_call 182; refine (numFits_c _ _ _).mono ?_; rintro e w' ⟨rfl, rfl⟩) | (go_at_call 183; refine (kidCount_c _ _ _).mono ?_; rintro e w' ⟨rfl, rfl⟩))
  all_goals (go_ret; exact ⟨ret_b (by rw [Bool.eq_iff_iff]; simp_all [partFitsF]; try grind), rfl⟩)
theorem fault_c (code pl : Int) (w : World) : Calls Tryz.prog 81 #[.int .i64 code, .int .i64 pl] w fun e w' => e = .returned (.iface 114 (.pointer (some ⟨w.heap.size, 0, none⟩))) ∧ w' = w.alloc (.cells #[.int .i64 code, .int .i64 pl, .string ⟨#[]⟩, .nilIface] 118) := by
  go_enter Tryz.func81, Tryz.ntmps81
  go_wp2
  go_ret
  exact ⟨rfl, rfl⟩
def ErrV (w : World) (r : Option (Int × Int)) (v : Value) (w' : World) : Prop := Below w.heap.size w w' ∧
  match r with
  | none => v = .nilIface
  | some (c, pl) => ∃ b, v = .iface 114 (.pointer (some ⟨b, 0, none⟩)) ∧ w.heap.size ≤ b ∧ w'.heap[b]? = some (.cells #[.int .i64 c, .int .i64 pl, .string ⟨#[]⟩, .nilIface] 118)
def ErrP (w : World) (r : Option (Int × Int)) (e : Ending) (w' : World) : Prop := ∃ v, e = .returned v ∧ ErrV w r v w'
theorem errV_new {w W : World} (h : Below w.heap.size w W) (c pl : Int) {n : Nat} (hn : n = W.heap.size) : ErrV w (some (c, pl)) (.iface 114 (.pointer (some ⟨n, 0, none⟩))) (W.alloc (.cells #[.int .i64 c, .int .i64 pl, .string ⟨#[]⟩, .nilIface] 118)) :=
  ⟨h.alloc h.size _, _, rfl, hn ▸ h.size, hn ▸ heap_alloc_new W _⟩
theorem errP_new {w W : World} (h : Below w.heap.size w W) (c pl : Int) {n : Nat} (hn : n = W.heap.size) : ErrP w (some (c, pl)) (.returned (.iface 114 (.pointer (some ⟨n, 0, none⟩)))) (W.alloc (.cells #[.int .i64 c, .int .i64 pl, .string ⟨#[]⟩, .nilIface] 118)) :=
  ⟨_, rfl, errV_new h c pl hn⟩
end Go.Proofs.YtldnkeackphilaaGreatDoor
