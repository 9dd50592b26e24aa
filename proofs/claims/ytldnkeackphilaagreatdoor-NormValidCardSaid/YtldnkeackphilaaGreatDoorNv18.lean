/- Plain words on texts: the pieces between a byte. -/
import Derived.Test.YtldnkeackphilaaGreatDoorNv1
import Derived.Lib.SplitLaws
import Derived.Test.YtldnkeackphilaaGreatDoorNv7
import Derived.ChangeArms
import Derived.DataReads
import Derived.Test.YtldnkeackphilaaGreatDoorNv17
set_option linter.unusedSimpArgs false
set_option linter.unusedVariables false
namespace Go.Proofs.YtldnkeackphilaaGreatDoor
open Go.RowKit

def pieces (c : UInt8) : List UInt8 → List (List UInt8)
  | [] => [[]]
  | b :: l => if b = c then [] :: pieces c l else match pieces c l with
    | p :: ps => (b :: p) :: ps
    | [] => [[b]]
theorem pieces_miss (c : UInt8) : ∀ l : List UInt8, c ∉ l → pieces c l = [l]
  | [], _ => rfl
  | b :: l, h => by
    simp only [List.mem_cons, not_or] at h
    rw [pieces, if_neg (Ne.symm h.1), pieces_miss c l h.2]
theorem pieces_hit (c : UInt8) (r : List UInt8) : ∀ a : List UInt8, c ∉ a → pieces c (a ++ c :: r) = a :: pieces c r
  | [], _ => by simp [pieces]
  | b :: a, h => by
    simp only [List.mem_cons, not_or] at h
    rw [List.cons_append, pieces, if_neg (Ne.symm h.1), pieces_hit c r a h.2]
theorem pieces_split (c : UInt8) : ∀ l : List UInt8, Lib.splitK [c] 0 (Lib.count l [c]) l = pieces c l := by
  intro l
  generalize hk : Lib.count l [c] = k
  induction k generalizing l with
  | zero =>
    have : c ∉ l := by
      rw [Lib.count_one] at hk
      exact List.count_eq_zero.1 hk
    rw [pieces_miss c l this]; rfl
  | succ k ih =>
    have hm : c ∈ l := by
      rw [Lib.count_one] at hk
      exact List.count_pos_iff.1 (by omega)
    obtain ⟨a, r, rfl, ha⟩ : ∃ a r, l = a ++ c :: r ∧ c ∉ a := by
      clear hk ih
      induction l with
      | nil => cases hm
      | cons b l ih =>
        by_cases hb : b = c
        · exact ⟨[], l, by rw [hb]; rfl, by simp⟩
        · obtain ⟨a, r, rfl, ha⟩ := ih (by simpa [Ne.symm hb] using hm)
          exact ⟨b :: a, r, rfl, by simp [ha, Ne.symm hb]⟩
    have hidx : Lib.index (a ++ c :: r) [c] = (a.length : Int) := by
      refine Lib.index_first (by simp) ?_ ?_
      · simp [Lib.occAt, List.isPrefixOf]
      · intro j hj
        have : (a ++ c :: r).drop j = a[j] :: (a ++ c :: r).drop (j + 1) := by
          rw [List.drop_eq_getElem_cons (by simp; omega), List.getElem_append_left hj]
        rw [Lib.occAt, this]
        have hne : c ≠ a[j] := fun e => ha (e ▸ List.getElem_mem hj)
        simp [List.isPrefixOf, hne]
    have hc : Lib.count r [c] = k := by
      rw [Lib.count_one] at hk ⊢
      rw [List.count_append, List.count_eq_zero.2 ha, List.count_cons_self] at hk
      omega
    rw [Lib.splitK, hidx, if_neg (by simp), pieces_hit c r a ha]
    have e1 : (a ++ c :: r).take ((a.length : Int).toNat + 0) = a := by simp
    have e2 : (a ++ c :: r).drop ((a.length : Int).toNat + [c].length) = r := by
      rw [show (a.length : Int).toNat + [c].length = a.length + 1 from by simp, List.drop_append]
      simp
    rw [e1, e2, ih r hc]
def piecesB (c : UInt8) (s : ByteArray) : List ByteArray := (pieces c s.data.toList).map fun l => ⟨l.toArray⟩
theorem data_inj {a b : ByteArray} (h : a.data.toList = b.data.toList) : a = b := by
  obtain ⟨a⟩ := a; obtain ⟨b⟩ := b
  simpa using h
theorem split_pieces (c : UInt8) (s : ByteArray) : Lib.splitB ⟨#[c]⟩ 0 (Lib.countB s ⟨#[c]⟩) s = piecesB c s := by
  have h := Lib.splitB_data ⟨#[c]⟩ 0 (Lib.countB s ⟨#[c]⟩) s
  have h2 : (Lib.splitB ⟨#[c]⟩ 0 (Lib.countB s ⟨#[c]⟩) s).map (·.data.toList) = pieces c s.data.toList := by
    rw [h]
    exact pieces_split c s.data.toList
  unfold piecesB
  rw [← h2, List.map_map]
  symm
  conv => rhs; rw [← List.map_id (Lib.splitB ⟨#[c]⟩ 0 (Lib.countB s ⟨#[c]⟩) s)]
  refine List.map_congr_left fun b _ => ?_
  apply data_inj
  simp
theorem pieces_ne (c : UInt8) : ∀ l, pieces c l ≠ []
  | [] => by simp [pieces]
  | b :: l => by
    rw [pieces]
    split
    · simp
    · split <;> simp
theorem pieces_len (c : UInt8) : ∀ l, (pieces c l).length ≤ l.length + 1
  | [] => by simp [pieces]
  | b :: l => by
    have := pieces_len c l
    rw [pieces]
    split
    · simp; omega
    · split
      · rename_i h; rw [h] at this; simp at this ⊢; omega
      · simp
theorem countB_pieces (c : UInt8) (s : ByteArray) : Lib.countB s ⟨#[c]⟩ + 1 = (piecesB c s).length := by
  rw [← split_pieces, Lib.splitB_all ⟨#[c]⟩ (Nat.le_refl 1) 0 _ s rfl]
end Go.Proofs.YtldnkeackphilaaGreatDoor
/- The calculus of values: contracts used in a world: what reads so in it. -/
namespace Go.Proofs.YtldnkeackphilaaGreatDoor
open Go.RowKit

/-- A value reads so in a world. -/
inductive RD (w : World) : Value → AV → Prop
  | imm (v : Value) (h : v.oneCell' = true) : RD w v (.imm v)
  | nil {A : Option Addr} : RD w (.slice A 0 0) (.sl [])
  | sl (g o sz c : Nat) (es : List (List AV)) (us : Nat → Nat → Value) (hsz : ∀ e ∈ es, e.length = sz) (hc : es.length ≤ c)
      (hcell : ∀ (i : Nat) (e : List AV) (j : Nat) (a : AV), es[i]? = some e → e[j]? = some a → w.cell? ⟨g, o + i * sz + j, none⟩ = some (us i j) ∧ (us i j).oneCell' = true)
      (hr : ∀ (i : Nat) (e : List AV) (j : Nat) (a : AV), es[i]? = some e → e[j]? = some a → RD w (us i j) a) : RD w (.slice (some ⟨g, o, none⟩) es.length c) (.sl es)
  | ptr (g o : Nat) (cs : List AV) (us : Nat → Value) (hcell : ∀ (j : Nat) (a : AV), cs[j]? = some a → w.cell? ⟨g, o + j, none⟩ = some (us j) ∧ (us j).oneCell' = true)
      (hr : ∀ (j : Nat) (a : AV), cs[j]? = some a → RD w (us j) a) : RD w (.pointer (some ⟨g, o, none⟩)) (.ptr cs)
  | agg (vs : Array Value) (cs : List AV) (hl : vs.size = cs.length) (h1 : ∀ (j : Nat) (v : Value), vs[j]? = some v → v.oneCell' = true) (h : ∀ (j : Nat) (v : Value) (a : AV), vs[j]? = some v → cs[j]? = some a → RD w v a) : RD w (.agg vs) (.agg cs)
  | ifc (t : TypeId) (v : Value) (a : AV) (h : RD w v a) : RD w (.iface t v) (.ifc t a)
/-- All that reads so. -/
def GW (w : World) : Gh := fun g i a => ∃ u, w.cell? ⟨g, i, none⟩ = some u ∧ u.oneCell' = true ∧ RD w u a
theorem RD.rs {w : World} {v : Value} {a : AV} (h : RD w v a) : RS (GW w) v a := by
  induction h with
  | imm v h => exact .imm v h
  | nil => exact .nil
  | sl g o sz c es us hsz hc hcell hr _ => exact .sl g o sz c es hsz hc fun i e j a h1 h2 => ⟨_, (hcell i e j a h1 h2).1, (hcell i e j a h1 h2).2, hr i e j a h1 h2⟩
  | ptr g o cs us hcell hr _ => exact .ptr g o cs fun j a h => ⟨_, (hcell j a h).1, (hcell j a h).2, hr j a h⟩
  | agg vs cs hl h1 _ ih => exact .agg vs cs hl h1 ih
  | ifc t v a _ ih => exact .ifc t v a ih
theorem cells_GW (w : World) (hg : Gl (GW w)) : CellsR (GW w) w := ⟨fun g i a ⟨u, h1, h2, h3⟩ => ⟨u, h1, h2, h3.rs⟩, hg⟩
/-- A contract, used in a world: what is found there stays; the result reads so. -/
theorem Has.use {P : Program} {f : FuncId} {args : List AV} {a : AV} {rt : Nat → Option (Option TypeId)} (h : Has P f args a rt) (w : World) (hg : Gl (GW w)) (vals : Array Value) (hl : vals.size = args.length) (hr : ∀ (i : Nat) v b, vals[i]? = some v → args[i]? = some b → RD w v b) :
    Calls P f vals w fun e w' => ∃ v G' O', e = .returned v ∧ Rl P 1 G' O' w' #[v] (St.one a rt) ∧ Fr (GW w) noOm w G' O' w' :=
  h.calls (GW w) w vals (cells_GW w hg) hl fun i v b h1 h2 => (hr i v b h1 h2).rs
/-- .. where the result is a plain value. -/
theorem Has.use_imm {P : Program} {f : FuncId} {args : List AV} {x : Value} {rt : Nat → Option (Option TypeId)} (h : Has P f args (.imm x) rt) (w : World) (hg : Gl (GW w)) (vals : Array Value) (hl : vals.size = args.length) (hr : ∀ (i : Nat) v b, vals[i]? = some v → args[i]? = some b → RD w v b) :
    Calls P f vals w fun e w' => e = .returned x ∧ Below w.heap.size w w' := by
  refine Calls.mono (h.use w hg vals hl hr) fun e w' hq => ?_
  obtain ⟨v, G', O', rfl, h1, h2⟩ := hq
  have hv := h1.vals 0
  have e0 : (#[v] : Array Value).getD 0 undef = v := rfl
  have e1 : (St.one (.imm x) rt).val 0 = .imm x := rfl
  rw [e0, e1] at hv
  have hx : v = x := by
    cases hv with
    | sh h => cases h; rfl
  subst hx
  refine ⟨rfl, ?_⟩
  exact ⟨h2.os, h2.tape, h2.output, h2.size, fun k hk => (h2.old k hk rfl).1⟩
end Go.Proofs.YtldnkeackphilaaGreatDoor
/- An argument that the row reads, as a value of the calculus: types of numbers, bools, strings, structs and slices. -/
namespace Go.Proofs.YtldnkeackphilaaGreatDoor
open Go.RowKit

/-- The shape of a type; 'pair' and 'unit' for a struct's fields; a slice bears its element's bytes. -/
inductive PT where
  | bo | nu | tx
  | sl (e : PT) (bytes : Nat)
  | st (r : PT)
  | unit
  | pair (a r : PT)
def PT.sz : PT → Nat
  | .unit => 0
  | .pair a r => a.sz + r.sz
  | .st r => r.sz
  | _ => 1
def PT.ok (P : Program) : PT → TypeId ⊕ (List Field × Nat) → Bool
  | .bo, .inl t => match P.underlying t with | some .bool => true | _ => false
  | .nu, .inl t => match P.underlying t with | some (.int .i64) => true | _ => false
  | .tx, .inl t => match P.underlying t with | some .string => true | _ => false
  | .sl e n, .inl t => match P.underlying t with | some (.slice u) => e.ok P (.inl u) && P.cellsOf u == e.sz && decide (0 < e.sz) && P.bytesOf u == n | _ => false
  | .st r, .inl t => match P.underlying t with | some (.struct fs) => r.ok P (.inr (fs.toList, 0)) && P.cellsOf t == r.sz | _ => false
  | .unit, .inr ([], _) => true
  | .pair a r, .inr (f :: fs, o) => f.offset == o && P.cellsOf f.type == a.sz && a.ok P (.inl f.type) && r.ok P (.inr (fs, o + a.sz))
  | _, _ => false
/-- Cells of that shape. -/
def PT.Of : PT → List AV → Prop
  | .bo, l => ∃ b, l = [.imm (.bool b)]
  | .nu, l => ∃ n : Int, l = [.imm (.int .i64 n)] ∧ -9223372036854775808 ≤ n ∧ n ≤ 9223372036854775807
  | .tx, l => ∃ s : ByteArray, l = [.imm (.string s)] ∧ s.size ≤ reachBytes
  | .sl e n, l => ∃ es : List (List AV), l = [.sl es] ∧ es.length * n ≤ reachBytes ∧ ∀ x ∈ es, e.Of x
  | .st r, l => r.Of l
  | .unit, l => l = []
  | .pair a r, l => ∃ l1 l2, l = l1 ++ l2 ∧ a.Of l1 ∧ r.Of l2
theorem PT.Of.len : ∀ {s : PT} {l : List AV}, s.Of l → l.length = s.sz
  | .bo, _, ⟨_, h⟩ => by rw [h]; rfl
  | .nu, _, ⟨_, h, _⟩ => by rw [h]; rfl
  | .tx, _, ⟨_, h, _⟩ => by rw [h]; rfl
  | .sl _ _, _, ⟨_, h, _⟩ => by rw [h]; rfl
  | .st r, _, h => PT.Of.len (s := r) h
  | .unit, l, h => by rw [show l = [] from h]; rfl
  | .pair a r, _, ⟨l1, l2, h, h1, h2⟩ => by rw [h, List.length_append, h1.len, h2.len]; rfl
theorem cells?_get {w : World} {base : Nat} {a : Addr} {n : Nat} {cs : List Value} (h : w.cells? base a n = some cs) : cs.length = n ∧ ∀ j, j < n → w.cell? (a.add j) = cs[j]? := by
  unfold World.cells? at h
  split at h
  · refine ⟨by rw [mapM_some_length h]; simp, fun j hj => ?_⟩
    exact mapM_some_get h j j (by simp [hj])
  · cases h
theorem spot_of {w : World} {a : Addr} {v : Value} (h : w.cell? a = some v) : a.spot = none := by
  unfold World.cell? at h
  split at h
  · split at h
    · cases h
    · next h' => simpa using h'
  · cases h
section
variable {H : Type} {enc : TypeId × Value → H} {P : Program} {w : World} {base : Nat} {held : Bool}
/-- Cells read so. -/
def ReadsTo (w : World) (cs : List Value) (l : List AV) : Prop := ∀ (j : Nat) v a, cs[j]? = some v → l[j]? = some a → v.oneCell' = true ∧ RD w v a
def Read1 (enc : TypeId × Value → H) (P : Program) (w : World) (base : Nat) (held : Bool) (s : PT) : Prop := ∀ (t : TypeId) (fuel : Nat) (cs : List Value) (d : DataW H) (ps : List MemPlace), s.ok P (.inl t) = true → DataW.trod enc P w base (fun _ => true) held fuel t cs = some (d, ps) → (∀ n ∈ d.weights P t, n ≤ reachBytes) → cs.length = s.sz ∧ ∃ l, s.Of l ∧ ReadsTo w cs l
def Read2 (enc : TypeId × Value → H) (P : Program) (w : World) (base : Nat) (held : Bool) (s : PT) : Prop := ∀ (fs : List Field) (o fuel : Nat) (cs : List Value) (xs : List (DataW H × List MemPlace)), s.ok P (.inr (fs, o)) = true → fs.mapM (fun f => DataW.trod enc P w base (fun _ => true) held fuel f.type ((cs.drop f.offset).take (P.cellsOf f.type))) = some xs → (∀ n ∈ DataW.weightsEach P (fs.map (·.type)) (xs.map (·.1)), n ≤ reachBytes) → ∃ l, s.Of l ∧ ReadsTo w (cs.drop o) l
theorem reads_one {v : Value} {a : AV} (h1 : v.oneCell' = true) (h2 : RD w v a) : ReadsTo w [v] [a] := fun j u b hu hb => by
  match j with
  | 0 => cases hu; cases hb; exact ⟨h1, h2⟩
  | j + 1 => simp at hu
theorem weights_all {e : TypeId} : ∀ {l : List (DataW H)} {i : Nat} {d : DataW H}, l[i]? = some d → ∀ n ∈ d.weights P e, n ∈ DataW.weightsAll P e l
  | x :: l, 0, d, h, n, hn => by
    simp at h
    subst h
    simp only [DataW.weightsAll, List.mem_append]
    exact .inl hn
  | x :: l, i + 1, d, h, n, hn => by
    simp only [DataW.weightsAll, List.mem_append]
    exact .inr (weights_all (l := l) (i := i) (by simpa using h) n hn)
  | [], _, _, h, _, _ => by simp at h
theorem read_slice {e : PT} {m : Nat} (ih : Read1 enc P w base held e) : Read1 enc P w base held (.sl e m) := by
  intro t fuel cs d ps ho ht hw
  simp only [PT.ok] at ho
  split at ho
  case h_2 => cases ho
  next u hu =>
  simp only [Bool.and_eq_true, beq_iff_eq, decide_eq_true_eq] at ho
  obtain ⟨⟨⟨ho, hc⟩, h0⟩, hb⟩ := ho
  rcases DataW.trod_slice hu ht with ⟨rfl, -⟩ | ⟨a, len, cap, elems, rest, n, rfl, rfl, hx, -, hlc, -, hlen, hel, hsp, -⟩
  · exact ⟨rfl, [.sl []], ⟨[], rfl, by simp, fun x hx => by simp at hx⟩, reads_one rfl .nil⟩
  simp only [Prod.mk.injEq] at hx
  obtain ⟨rfl, -⟩ := hx
  obtain ⟨hr1, hr2⟩ := hsp rfl
  simp only [DataW.weights, hu, List.mem_cons, List.mem_append] at hw
  have hsize := hw _ (.inl rfl)
  have hsz : (elems.map (·.1)).length * m ≤ reachBytes := by
    rw [hb] at hsize
    refine Nat.le_trans (Nat.mul_le_mul_right _ ?_) hsize
    omega
  by_cases hcap : cap = 0
  · have hl0 : len = 0 := by omega
    subst hl0 hcap
    exact ⟨rfl, [.sl []], ⟨[], rfl, by simp, fun x hx => by simp at hx⟩, reads_one rfl .nil⟩
  have hspot : a.spot = none := by
    have key : ∀ (x : Option (DataW H × List MemPlace)), (w.cells? base (a.add (0 * P.cellsOf u)) (P.cellsOf u)).bind (DataW.trod enc P w base (fun _ => true) held n u) = x → x.isSome = true → a.spot = none := by
      intro x h1 h2
      obtain ⟨y, rfl⟩ := Option.isSome_iff_exists.1 h2
      obtain ⟨cs, h3, -⟩ := Option.bind_eq_some_iff.1 h1
      obtain ⟨k1, k2⟩ := cells?_get h3
      have k3 := k2 0 (by omega)
      rw [List.getElem?_eq_getElem (by omega)] at k3
      have := spot_of k3
      simpa [Addr.add] using this
    by_cases hl : 0 < len
    · exact key _ (hel 0 hl) (by simp [hlen, hl])
    · have hl0 : len = 0 := by omega
      subst hl0
      exact key _ (hr2 0 (by omega)) (by simp [hr1]; omega)
  obtain ⟨g, o, sp⟩ := a
  simp only at hspot
  subst hspot
  have each : ∀ i, i < len → ∃ l us, e.Of l ∧ us.length = e.sz ∧ (∀ j, j < e.sz → w.cell? ⟨g, o + i * e.sz + j, none⟩ = us[j]?) ∧ ReadsTo w us l := by
    intro i hi
    have h1 := hel i hi
    obtain ⟨y, hy⟩ : ∃ y, elems[i]? = some y := ⟨_, List.getElem?_eq_getElem (by omega)⟩
    rw [hy] at h1
    obtain ⟨us, h3, h4⟩ := Option.bind_eq_some_iff.1 h1
    obtain ⟨k1, k2⟩ := cells?_get h3
    obtain ⟨k3, l, k4, k5⟩ := ih u n us y.1 y.2 ho h4 fun q hq => hw q (.inr (.inl (weights_all (i := i) (by rw [List.getElem?_map, hy]; rfl) q hq)))
    refine ⟨l, us, k4, k3, fun j hj => ?_, k5⟩
    have := k2 j (by omega)
    rwa [hc, Addr.add_mid, Addr.add_mid] at this
  have each' : ∀ i, ∃ (l : List AV) (us : List Value), i < len → e.Of l ∧ us.length = e.sz ∧ (∀ j, j < e.sz → w.cell? ⟨g, o + i * e.sz + j, none⟩ = us[j]?) ∧ ReadsTo w us l := fun i => by
    by_cases hi : i < len
    · obtain ⟨l, us, h⟩ := each i hi
      exact ⟨l, us, fun _ => h⟩
    · exact ⟨[], [], fun h => absurd h hi⟩
  obtain ⟨L, hL⟩ := Classical.axiomOfChoice each'
  obtain ⟨U, hU⟩ := Classical.axiomOfChoice hL
  have hll : ((List.range len).map L).length = len := by simp
  have hget : ∀ {i : Nat} {x : List AV}, ((List.range len).map L)[i]? = some x → i < len ∧ x = L i := fun {i x} h => by
    have hi : i < len := by rw [← hll]; exact (List.getElem?_eq_some_iff.1 h).1
    rw [List.getElem?_map, List.getElem?_range hi] at h
    exact ⟨hi, by simpa using h.symm⟩
  have cell : ∀ (i : Nat) (x : List AV) (j : Nat) (a : AV), ((List.range len).map L)[i]? = some x → x[j]? = some a → w.cell? ⟨g, o + i * e.sz + j, none⟩ = some ((U i).getD j undef) ∧ ((U i).getD j undef).oneCell' = true ∧ RD w ((U i).getD j undef) a := by
    intro i x j a hx ha
    obtain ⟨hi, rfl⟩ := hget hx
    obtain ⟨k1, k2, k3, k4⟩ := hU i hi
    have hj : j < e.sz := by rw [← k1.len]; exact (List.getElem?_eq_some_iff.1 ha).1
    have hu : (U i)[j]? = some ((U i).getD j undef) := by simp [List.getD, List.getElem?_eq_getElem (show j < (U i).length by omega)]
    exact ⟨(k3 j hj).trans hu, k4 j _ a hu ha⟩
  refine ⟨rfl, [.sl ((List.range len).map L)], ⟨_, rfl, ?_, fun x hx => ?_⟩, reads_one rfl ?_⟩
  · rw [hll]
    rw [List.length_map, hlen] at hsz
    exact hsz
  · obtain ⟨i, hi, rfl⟩ := List.mem_map.1 hx
    exact (hU i (List.mem_range.1 hi)).1
  · have := RD.sl (w := w) g o e.sz cap ((List.range len).map L) (fun i j => (U i).getD j undef) (fun x hx => ?_) (by omega) (fun i x j a hx ha => ⟨(cell i x j a hx ha).1, (cell i x j a hx ha).2.1⟩) fun i x j a hx ha => (cell i x j a hx ha).2.2
    · rwa [hll] at this
    · obtain ⟨i, hi, rfl⟩ := List.mem_map.1 hx
      exact (hU i (List.mem_range.1 hi)).1.len
theorem trod_one {t : TypeId} {fuel : Nat} {cs : List Value} {x : DataW H × List MemPlace} (h : DataW.trod enc P w base (fun _ => true) held fuel t cs = some x) : ∃ n, fuel = n + 1 := by
  cases fuel with
  | zero => simp [DataW.trod] at h
  | succ n => exact ⟨n, rfl⟩
theorem trod_st {t : TypeId} {fs : Array Field} {fuel : Nat} {cs : List Value} {d : DataW H} {ps : List MemPlace} (ht : P.underlying t = some (.struct fs)) (h : DataW.trod enc P w base (fun _ => true) held (fuel + 1) t cs = some (d, ps)) :
    cs.length = P.cellsOf t ∧ ∃ xs, fs.toList.mapM (fun f => DataW.trod enc P w base (fun _ => true) held fuel f.type ((cs.drop f.offset).take (P.cellsOf f.type))) = some xs ∧ d = .agg (xs.map (·.1)) := by
  unfold DataW.trod at h
  rw [ht] at h
  split at h <;> simp_all
  obtain ⟨h0, xs, h1, h2, -⟩ := h
  exact ⟨xs, h1, h2.symm⟩
theorem read_bo : Read1 enc P w base held .bo := by
  intro t fuel cs d ps ho ht hw
  obtain ⟨n, rfl⟩ := trod_one ht
  simp only [PT.ok] at ho
  split at ho
  case h_2 => cases ho
  next hu =>
  unfold DataW.trod at ht
  rw [hu] at ht
  split at ht <;> simp_all
  next _ b => exact ⟨rfl, [.imm (.bool b)], ⟨b, rfl⟩, reads_one rfl (.imm _ rfl)⟩
theorem wf_i64 {n : Int} (h : (Lit.int .i64 n).wf = true) : -9223372036854775808 ≤ n ∧ n ≤ 9223372036854775807 := by simpa [Lit.wf, IntKind.min, IntKind.max, IntKind.signed, IntKind.bits] using h
theorem read_nu : Read1 enc P w base held .nu := by
  intro t fuel cs d ps ho ht hw
  obtain ⟨n, rfl⟩ := trod_one ht
  simp only [PT.ok] at ho
  split at ho
  case h_2 => cases ho
  next hu =>
  unfold DataW.trod at ht
  rw [hu] at ht
  split at ht <;> simp_all
  next _ _ m he =>
  subst he
  exact ⟨rfl, [.imm (.int .i64 m)], ⟨m, rfl, wf_i64 ht.1.2⟩, reads_one rfl (.imm _ rfl)⟩
theorem read_tx : Read1 enc P w base held .tx := by
  intro t fuel cs d ps ho ht hw
  obtain ⟨n, rfl⟩ := trod_one ht
  simp only [PT.ok] at ho
  split at ho
  case h_2 => cases ho
  next hu =>
  unfold DataW.trod at ht
  rw [hu] at ht
  split at ht <;> simp_all
  next _ s =>
  obtain ⟨-, rfl, -⟩ := ht
  refine ⟨rfl, [.imm (.string s)], ⟨s, rfl, ?_⟩, reads_one rfl (.imm _ rfl)⟩
  have := hw s.data.toList.length (by simp [DataW.weights])
  simpa using this
theorem read_st {r : PT} (ih : Read2 enc P w base held r) : Read1 enc P w base held (.st r) := by
  intro t fuel cs d ps ho ht hw
  obtain ⟨n, rfl⟩ := trod_one ht
  simp only [PT.ok] at ho
  split at ho
  case h_2 => cases ho
  next fs hu =>
  simp only [Bool.and_eq_true, beq_iff_eq] at ho
  obtain ⟨hl, xs, h1, rfl⟩ := trod_st hu ht
  obtain ⟨l, k1, k2⟩ := ih fs.toList 0 n cs xs ho.1 h1 fun q hq => hw q (by simpa [DataW.weights, hu] using hq)
  exact ⟨by rw [hl, ho.2]; rfl, l, k1, k2⟩
theorem read_pair {a r : PT} (iha : Read1 enc P w base held a) (ihr : Read2 enc P w base held r) : Read2 enc P w base held (.pair a r) := by
  intro fs o fuel cs xs ho h hw
  match fs with
  | [] => simp [PT.ok] at ho
  | f :: fs =>
    simp only [PT.ok, Bool.and_eq_true, beq_iff_eq] at ho
    obtain ⟨⟨⟨h1, h2⟩, h3⟩, h4⟩ := ho
    rw [List.mapM_cons] at h
    cases hf : DataW.trod enc P w base (fun _ => true) held fuel f.type ((cs.drop f.offset).take (P.cellsOf f.type)) with
    | none => simp [hf] at h
    | some x =>
      cases hr : fs.mapM (fun f => DataW.trod enc P w base (fun _ => true) held fuel f.type ((cs.drop f.offset).take (P.cellsOf f.type))) with
      | none => simp [hf, hr] at h
      | some ys =>
        simp only [hf, hr, Option.pure_def, Option.bind_eq_bind, Option.bind_some, Option.some.injEq] at h
        subst h
        simp only [List.map_cons, DataW.weightsEach, List.mem_append] at hw
        obtain ⟨k1, l1, k2, k3⟩ := iha _ _ _ x.1 x.2 h3 hf fun q hq => hw q (.inl hq)
        obtain ⟨l2, k4, k5⟩ := ihr _ _ _ _ _ h4 hr fun q hq => hw q (.inr hq)
        refine ⟨l1 ++ l2, ⟨l1, l2, rfl, k2, k4⟩, fun j v b hv hb => ?_⟩
        by_cases hj : j < l1.length
        · rw [List.getElem?_append_left hj] at hb
          refine k3 j v b ?_ hb
          rw [k2.len] at hj
          rw [h1, h2, List.getElem?_take_of_lt hj]
          exact hv
        · rw [List.getElem?_append_right (by omega)] at hb
          refine k5 (j - l1.length) v b ?_ hb
          rw [k2.len] at hj ⊢
          rw [List.getElem?_drop] at hv ⊢
          rw [← hv]
          congr 1
          omega
theorem no2 {s : PT} (h : ∀ fs o, s.ok P (.inr (fs, o)) = false) : Read2 enc P w base held s := fun fs o fuel cs xs ho => by rw [h] at ho; cases ho
theorem no1 {s : PT} (h : ∀ t, s.ok P (.inl t) = false) : Read1 enc P w base held s := fun t fuel cs d ps ho => by rw [h] at ho; cases ho
theorem read_all : ∀ s : PT, Read1 enc P w base held s ∧ Read2 enc P w base held s
  | .bo => ⟨read_bo, no2 fun fs o => by simp [PT.ok]⟩
  | .nu => ⟨read_nu, no2 fun fs o => by simp [PT.ok]⟩
  | .tx => ⟨read_tx, no2 fun fs o => by simp [PT.ok]⟩
  | .sl e m => ⟨read_slice (read_all e).1, no2 fun fs o => by simp [PT.ok]⟩
  | .st r => ⟨read_st (read_all r).2, no2 fun fs o => by simp [PT.ok]⟩
  | .unit => ⟨no1 fun t => by simp [PT.ok], fun fs o fuel cs xs ho h hw => ⟨[], rfl, fun j v a _ h => by simp at h⟩⟩
  | .pair a r => ⟨no1 fun t => by simp [PT.ok], read_pair (read_all a).1 (read_all r).2⟩
end
end Go.Proofs.YtldnkeackphilaaGreatDoor
