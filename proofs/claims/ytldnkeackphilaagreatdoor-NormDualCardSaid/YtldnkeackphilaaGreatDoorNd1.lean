/- My own words: how data read in a world, and small closers. No program in sight. -/
import Derived.Below
import Derived.Deep.Draws
import Derived.Deep.AppendLies
import Derived.Maps.AppendAt
import Derived.OwnWalk
import Derived.Laws.BytesArg
import Derived.Laws.MakeOwn
import Derived.Laws.OwnMore
import Derived.Deep.OwnRows
import Derived.Tactics
import Derived.Lib.ConvBytes
import Derived.Lib.Hide
import Derived.Laws.Slices
import Derived.WalkKit
import Derived.WalkSmall
import Derived.WalkSpells
import Derived.WalkLawsBesides
import Derived.KernelRfl
import Derived.RowKit3
import Derived.Deep.LoopGhost
import Derived.Deep.QuietTactic
import Derived.BigQuiet
import Derived.WideLaws
import Derived.Deep.DeepCutAuto
import Derived.Deep.CutBlock
import Derived.Deep.DeepFit
import Derived.Deep.RegionHeld3
import Derived.Laws.Rows
import Derived.Lib.AppendStr
import Derived.ArgAppend
import Derived.Laws.IdiomCopy
import Derived.OrdersHeld
import Derived.Outline
import Derived.Deep.MidRow
set_option linter.unusedSimpArgs false
set_option linter.unusedVariables false
namespace Go.Proofs.YtldnkeackphilaaGreatDoor
open Go.RowKit

theorem ret_b {a b : Bool} (h : a = b) : Ending.returned (.bool a) = .returned (.bool b) := by rw [h]
theorem ret_i {k : IntKind} {a b : Int} (h : a = b) : Ending.returned (.int k a) = .returned (.int k b) := by rw [h]

structure R64 (x : Int) : Prop where
  lo : -9223372036854775808 ≤ x
  hi : x ≤ 9223372036854775807

def IntsV (w : World) (v : Value) (xs : List Int) : Prop :=
  ∃ A c, v = .slice A xs.length c ∧ xs.length ≤ 35184372088064 ∧ ∀ j x, xs[j]? = some x → R64 x ∧ ∃ b o, A = some ⟨b, o, none⟩ ∧ b < w.heap.size ∧ w.cell? ⟨b, o + j, none⟩ = some (.int .i64 x)
structure Part where
  kind : Int
  text : ByteArray
  num : Int
  kids : List Int
def PartR (w : World) (p : Part) (kv : Value) : Prop := R64 p.kind ∧ R64 p.num ∧ p.text.size ≤ 140737488351232 ∧ IntsV w kv p.kids
def PartsV (w : World) (v : Value) (ps : List Part) : Prop :=
  ∃ A c, v = .slice A ps.length c ∧ ps.length ≤ 4398046510976 ∧ ∀ j p, ps[j]? = some p → ∃ b o kv, A = some ⟨b, o, none⟩ ∧ b < w.heap.size ∧ PartR w p kv ∧
    w.cell? ⟨b, o + j * 4, none⟩ = some (.int .i64 p.kind) ∧ w.cell? ⟨b, o + j * 4 + 1, none⟩ = some (.string p.text) ∧ w.cell? ⟨b, o + j * 4 + 2, none⟩ = some (.int .i64 p.num) ∧ w.cell? ⟨b, o + j * 4 + 3, none⟩ = some kv

theorem cell_below {w w1 : World} (h : Below w.heap.size w w1) {a : Addr} {v : Value} (hc : w.cell? a = some v) : w1.cell? a = some v := (h.cell (World.block_lt_of_cell? w a hc)).trans hc
theorem IntsV.below {w w1 : World} {v : Value} {xs : List Int} (h : IntsV w v xs) (hb : Below w.heap.size w w1) : IntsV w1 v xs := by
  obtain ⟨A, c, rfl, hl, hx⟩ := h
  refine ⟨A, c, rfl, hl, fun j x hj => ?_⟩
  obtain ⟨hr, b, o, hA, hlt, hc⟩ := hx j x hj
  exact ⟨hr, b, o, hA, Nat.lt_of_lt_of_le hlt hb.size, cell_below hb hc⟩
theorem PartR.below {w w1 : World} {p : Part} {v : Value} (h : PartR w p v) (hb : Below w.heap.size w w1) : PartR w1 p v := ⟨h.1, h.2.1, h.2.2.1, h.2.2.2.below hb⟩
theorem PartsV.below {w w1 : World} {v : Value} {xs : List Part} (h : PartsV w v xs) (hb : Below w.heap.size w w1) : PartsV w1 v xs := by
  obtain ⟨A, c, rfl, hl, hx⟩ := h
  refine ⟨A, c, rfl, hl, fun j x hj => ?_⟩
  obtain ⟨b, o, kv, hA, hlt, hr, h0, h1, h2, h3⟩ := hx j x hj
  exact ⟨b, o, kv, hA, Nat.lt_of_lt_of_le hlt hb.size, hr.below hb, cell_below hb h0, cell_below hb h1, cell_below hb h2, cell_below hb h3⟩
theorem IntsV.get {w : World} {A : Option Addr} {n c : Nat} {xs : List Int} (h : IntsV w (.slice A n c) xs) (j : Nat) (x : Int) (hj : xs[j]? = some x) : R64 x ∧ ∃ b o, A = some ⟨b, o, none⟩ ∧ b < w.heap.size ∧ w.cell? ⟨b, o + j, none⟩ = some (.int .i64 x) := by
  obtain ⟨A', c', he, _, hx⟩ := h
  injection he with he
  subst he
  exact hx j x hj
theorem PartsV.get {w : World} {A : Option Addr} {n c : Nat} {xs : List Part} (h : PartsV w (.slice A n c) xs) {j : Nat} {p : Part} (hj : xs[j]? = some p) : ∃ b o kv, A = some ⟨b, o, none⟩ ∧ b < w.heap.size ∧ PartR w p kv ∧
    w.cell? ⟨b, o + j * 4, none⟩ = some (.int .i64 p.kind) ∧ w.cell? ⟨b, o + j * 4 + 1, none⟩ = some (.string p.text) ∧ w.cell? ⟨b, o + j * 4 + 2, none⟩ = some (.int .i64 p.num) ∧ w.cell? ⟨b, o + j * 4 + 3, none⟩ = some kv := by
  obtain ⟨A', c', he, _, hx⟩ := h
  injection he with he
  subst he
  exact hx j p hj
theorem below_box (w : World) (o : Obj) : Below w.heap.size w (w.alloc o) := (Below.refl _ _).alloc (Nat.le_refl _) o

def ints (xs : List Int) : List Value := xs.map (.int .i64)
def OwnF {α : Type} (f : α → Value) (E : TypeId) (w : World) (B : Nat) (v : Value) (xs : List α) : Prop := w.ownsRow B E 1 v xs.length (xs.map f)
abbrev OwnInts := OwnF (Value.int .i64) 3
abbrev OwnStrs := OwnF Value.string 9
theorem OwnF.shape {α : Type} {f : α → Value} {E : TypeId} {w : World} {B : Nat} {v : Value} {xs : List α} (h : OwnF f E w B v xs) : ∃ A c, v = .slice A xs.length c ∧ xs.length ≤ 9223372036854775807 ∧ xs.length ≤ c := by
  rcases h.2 with ⟨rfl, hn⟩ | ⟨g, cap, cur, rfl, _, _, h1, h2, _⟩
  · exact ⟨none, 0, by rw [hn], by omega, by omega⟩
  · simp only [maxLen] at h2
    exact ⟨_, cap, rfl, by omega, h1⟩
theorem OwnF.shape' {α : Type} {f : α → Value} {E : TypeId} {w : World} {B : Nat} {v : Value} {xs : List α} (h : OwnF f E w B v xs) : ∃ A n c, v = .slice A n c ∧ xs.length = n ∧ n ≤ 9223372036854775807 ∧ n ≤ c := by
  obtain ⟨A, c, h1, h2, h3⟩ := h.shape
  exact ⟨A, _, c, h1, rfl, h2, h3⟩
theorem OwnF.form' {α : Type} {f : α → Value} {E : TypeId} {w : World} {B : Nat} {A : Option Addr} {n c : Nat} {xs : List α} (h : OwnF f E w B (.slice A n c) xs) (hn : 0 < xs.length) :
    ∃ g, A = some ⟨g, 0, none⟩ ∧ B ≤ g ∧ g < w.heap.size ∧ ∀ j x, xs[j]? = some x → w.cell? ⟨g, j, none⟩ = some (f x) := by
  have hc := fun g => @World.ownsRow.cells _ _ _ _ _ _ _ h g
  have hlt := World.ownsRow.lt h
  rcases h.2 with ⟨h0, h1⟩ | ⟨g, cap, cur, h0, hb, _, h1, h2, _⟩
  · omega
  · injection h0 with h0 h3 h4
    subst h0
    refine ⟨g, rfl, hb, (hlt g rfl).2, fun j x hj => ?_⟩
    have := hc g rfl j (f x) (by simp [hj])
    unfold Addr.add at this
    split at this
    · next h => subst h; exact this
    · simpa using this
theorem OwnF.below {α : Type} {f : α → Value} {E : TypeId} {w w1 : World} {B : Nat} {v : Value} {xs : List α} (h : OwnF f E w B v xs) (hb : Below w.heap.size w w1) : OwnF f E w1 B v xs :=
  World.ownsRow.kept (row := none) h ⟨hb.os, hb.tape, hb.output, hb.size, fun i hi _ => hb.block i hi⟩ (by cases v.ownBlock <;> simp)
theorem OwnF.take' {α : Type} {f : α → Value} {E : TypeId} {w : World} {B n c : Nat} {A : Option Addr} {xs : List α} (h : OwnF f E w B (.slice A n c) xs) (k : Nat) (hk : k ≤ xs.length) : OwnF f E w B (.slice A k c) (xs.take k) := by
  have hl : (xs.take k).length = k := by simp; omega
  rcases h with ⟨h1, h2⟩
  rcases h2 with ⟨h0, h3⟩ | ⟨g', cap', cur, hv, hg, hh, hn, hcap, hsz, htake⟩
  · cases h0
    obtain rfl : k = 0 := by omega
    exact World.ownsRow_nil _ _ _ _
  · cases hv
    refine ⟨by simp, .inr ⟨g', c, cur, by rw [hl], hg, hh, by omega, hcap, hsz, ?_⟩⟩
    have h3 : (cur.toList.take (xs.length * 1)).take (k * 1) = (xs.map f).take (k * 1) := by rw [htake]
    rw [List.take_take, Nat.min_eq_left (by omega)] at h3
    rw [hl, h3]
    simp [List.map_take]
theorem OwnF.reads {E : TypeId} {w : World} {B : Nat} {v : Value} {xs : List Int} (h : OwnF (Value.int .i64) E w B v xs) (hl : xs.length ≤ 35184372088064) (hr : ∀ x ∈ xs, R64 x) : IntsV w v xs := by
  obtain ⟨A, c, rfl, _⟩ := h.shape
  refine ⟨A, c, rfl, hl, fun j x hj => ?_⟩
  have hj' : j < xs.length := (List.getElem?_eq_some_iff.1 hj).1
  obtain ⟨g, he, _, hlt, hc⟩ := h.form' (by omega)
  exact ⟨hr x (List.mem_of_getElem? hj), g, 0, he, hlt, by simpa using hc j x hj⟩

theorem cut_h {P : Program} (t e : TypeId) (ht : P.underlying t = some (.slice e)) (hi : (P.info? e).isSome = true) (A : Option Addr) (n c h : Nat) (hh : h ≤ n) (hn : n ≤ c) :
    ∀ W : World, (Instr.slice t (.slice A n c) none (some (.int .i64 (h : Int))) none).run P W = .ok (.slice A h c) W := by
  intro W
  obtain ⟨i, hi⟩ := Option.isSome_iff_exists.1 hi
  have hel : P.elem t = e := by simp [Program.elem, ht]
  have hu : P.underlying t = some (.slice (P.elem t)) := by rw [hel]; exact ht
  rw [run_slice_h W t A n c hu .i64 (h : Int) (Int.natCast_nonneg _) (by omega), hel]
  simp [sizeOf, typeInfo, hi, sliced, Result.andThen]
  cases A <;> simp [Addr.add]
section
variable {P : Program} {ops : Array Oper} {rest : List Oper} {o : Oper} {a : Act} {Q : Exit → Act → World → Prop}
theorem app1 {W : World} (base : Nat) (hgd : o.guard = none) (s x : Operand) (t e : TypeId) (z : Value) (size bytes : Nat)
    (ho : o.op = .call { callee := .builtin .append, args := #[s, x], argTypes := #[t, t] })
    (ht : P.underlying t = some (.slice e)) (hinfo : (P.info? e).map (fun i => (i.zero, i.size, i.bytes)) = some (some z, size, bytes)) (hz : z.cells.size = size) (hsz : 0 < size)
    (v : Value) (n : Nat) (xs : List Value) (cs : List Value) (hs : a.eval s = v) {nb : Nat} (hx : a.eval x = .slice (some ⟨nb, 0, none⟩) 1 1) (h1 : cs.all Value.oneCell' = true) (hcs : cs.length = size)
    (hc : nb = W.heap.size ∧ W.ownsRow base e size v n xs ∧ base ≤ W.heap.size ∧ n + 1 ≤ 9223372036854775807 ∧ (n + 1) * bytes ≤ 140737488355328)
    (h : ∀ v1 w1, w1.ownsRow base e size v1 (n + 1) (xs ++ cs) → W.grownBy w1 v.ownBlock → (v1.ownBlock = v.ownBlock ∨ ∃ b, v1.ownBlock = some b ∧ W.heap.size ≤ b) → wpList P ops Q rest (a.put o.dst v1) w1) :
    wpList P ops Q (o :: rest) a (W.alloc (.cells cs.toArray e)) := by
  obtain ⟨rfl, HO, hbase, h63, hl⟩ := hc
  obtain ⟨i0, hi, hzz⟩ := Option.map_eq_some_iff.1 hinfo
  simp only [Prod.mk.injEq] at hzz
  obtain ⟨hz0, hz1, hz2⟩ := hzz
  refine wpList_append_own_at (W.alloc (.cells cs.toArray e)) hgd s x t ho base e i0 z size bytes ht hi hz0 hz1 hz2 hz hsz v n xs hs (World.ownsRow.alloc HO _) ⟨W.heap.size, 0, none⟩ 1 1 cs hx (by omega)
    (World.news_of_block (cs := cs.toArray) (t := e) (fr := (0, 0)) (heap_alloc_new W _)) (List.all_eq_true.1 h1) (by simp only [maxLen]; omega) hl (by simp; omega) ?_
  intro v1 w1 hown hg _ hat
  refine h v1 w1 hown (World.grownBy.trans (World.grownBy_alloc W _ _) hg) ?_
  rcases hat with hat | hat
  · exact .inl hat
  · exact .inr ⟨_, hat, by simp⟩
end
theorem OwnF.made {α : Type} {f : α → Value} {E : TypeId} (z : α) (W : World) (B m : Nat) (hb : B ≤ W.heap.size) (hm : m ≤ 9223372036854775807) :
    OwnF f E (W.alloc (.cells (madeCells #[f z] m) E)) B (.slice (some ⟨W.heap.size, 0, none⟩) m m) (List.replicate m z) := by
  have h := World.ownsRow_lit (base := B) (e := E) (size := 1) W (madeCells #[f z] m) m hb (by simpa [maxLen] using hm) (by simp [size_madeCells])
  have hl : (madeCells #[f z] m).toList = (List.replicate m z).map f := by
    apply List.ext_getElem
    · simp [madeCells]
    · intro i h1 h2
      simp [madeCells, Nat.mod_one]
  unfold OwnF
  rw [List.length_replicate]
  rwa [hl] at h
theorem OwnF.store {α : Type} {f : α → Value} {E : TypeId} {W : World} {B g n c : Nat} {xs : List α} (h : OwnF f E W B (.slice (some ⟨g, 0, none⟩) n c) xs) (hn : xs.length = n) (i : Nat) (x : α) :
    OwnF f E (W.setCell ⟨g, i, none⟩ (f x)) B (.slice (some ⟨g, 0, none⟩) n c) (xs.set i x) ∧ W.grownBy (W.setCell ⟨g, i, none⟩ (f x)) (some g) := by
  subst hn
  have hs := World.ownsRow.stored h i (f x)
  have he : (xs.map f).set i (f x) = (xs.set i x).map f := by simp [List.map_set]
  rw [he] at hs
  unfold OwnF
  rw [List.length_set]
  exact hs
theorem OwnF.free {α : Type} {f : α → Value} {E : TypeId} {W : World} {B g n c : Nat} {xs : List α} (h : OwnF f E W B (.slice (some ⟨g, 0, none⟩) n c) xs) (i : Nat) : W.frozen? ⟨g, i, none⟩ = false := by
  rcases h.2 with ⟨h', _⟩ | ⟨g', cap', cur, h', _, hh, _⟩
  · cases h'
  · have : g = g' := by injection h' with h'; injection h' with h'; injection h' with h'
    subst this
    simp [World.frozen?, hh]
theorem OwnF.drewN {α : Type} {f : α → Value} {E : TypeId} {W : World} {B : Nat} {v : Value} {xs : List α} (h : OwnF f E W B v xs) (n : Nat) : OwnF f E (W.drewN n) B v xs := h
theorem cell_set_ne {w : World} {a b : Addr} {u v : Value} (h : a.block ≠ b.block) (hc : w.cell? a = some v) : (w.setCell b u).cell? a = some v := by
  rw [World.cell?_of_block (w := w) (Below.heap_setCell w b u a.block h)]
  exact hc
theorem below_al {w W : World} (h : Below w.heap.size w W) (o : Obj) : Below w.heap.size w (W.alloc o) := h.alloc h.size o
theorem quiet_q {P : Program} {f : FuncId} {args : Array Value} {w : World} {q n : Nat} {v : Value}
    (h : Calls P f args (w.drewN (q + n)) fun e w' => e = .returned v ∧ w' = w.drewN (q + n)) : Calls P f args (w.drewN (q + n)) fun e w'' => e = .returned v ∧ ∃ m, w'' = w.drewN (q + m) :=
  h.mono fun _ _ ⟨he, hm⟩ => ⟨he, n, hm⟩
theorem grown_below {B : Nat} {w W w1 : World} {v : Value} (h : Below B w W) (hB : B ≤ W.heap.size) (hg : W.grownBy w1 v.ownBlock) (hv : ∀ k, v.ownBlock = some k → B ≤ k) : Below B w w1 := h.grown hg hB hv
theorem below_then {B : Nat} {w w1 w2 : World} (h : Below B w w1) (hB : B ≤ w1.heap.size) (k : Below w1.heap.size w1 w2) : Below B w w2 := h.trans (k.mono hB)
theorem bcell {W w1 : World} (hb : Below W.heap.size W w1) : (∀ b o, b < W.heap.size → w1.cell? ⟨b, o, none⟩ = W.cell? ⟨b, o, none⟩) ∧ (∀ b o, b < W.heap.size → w1.frozen? ⟨b, o, none⟩ = W.frozen? ⟨b, o, none⟩) :=
  ⟨fun b o h => hb.cell (p := ⟨b, o, none⟩) h, fun b o h => hb.frozen (p := ⟨b, o, none⟩) h⟩
end Go.Proofs.YtldnkeackphilaaGreatDoor
namespace Go.Proofs.YtldnkeackphilaaGreatDoor
open Go.RowKit

theorem cell_al {W : World} {o : Obj} {a : Addr} {v : Value} (h : W.cell? a = some v) : (W.alloc o).cell? a = some v := (World.cell?_alloc_lt W o a (World.block_lt_of_cell? W a h)).trans h
theorem cell_dr {W : World} {a : Addr} {v : Value} (h : W.cell? a = some v) : W.drew.cell? a = some v := h
theorem below_dr {w W : World} (h : Below w.heap.size w W) : Below w.heap.size w W.drew := ⟨h.os, h.tape, h.output, h.size, h.block⟩
theorem heap_at {W : World} {o : Obj} {n : Nat} (h : n = W.heap.size) : (W.alloc o).heap[n]? = some o := h ▸ heap_alloc_new W o

theorem grown_set {w W : World} {g : Nat} (h : w.grownBy W (some g)) {p : Addr} (hp : p.block = g ∨ w.heap.size ≤ p.block) (u : Value) : w.grownBy (W.setCell p u) (some g) :=
  ⟨h.os, h.tape, h.output, by simpa [World.setCell] using h.size, fun i hi hne => (Below.heap_setCell W p u i (by
    rintro rfl
    rcases hp with hp | hp
    · exact hne (by rw [hp])
    · omega)).trans (h.block i hi hne)⟩
theorem grown_dr {w W : World} {g : Option Nat} (h : w.grownBy W g) (n : Nat) : w.grownBy (W.drewN n) g := ⟨h.os, h.tape, h.output, h.size, h.block⟩

theorem blk_set {W : World} {g : Nat} {cs : Array Value} {t : TypeId} (h : W.heap[g]? = some (.cells cs t (0, 0))) (i : Nat) (u : Value) : (W.setCell ⟨g, i, none⟩ u).heap[g]? = some (.cells (cs.setIfInBounds i u) t (0, 0)) := by
  simp [World.setCell, Array.getElem?_modify, h]
theorem blk_far {W : World} {g : Nat} {o : Obj} (h : W.heap[g]? = some o) {p : Addr} (hp : g ≠ p.block) (u : Value) : (W.setCell p u).heap[g]? = some o := (Below.heap_setCell W p u g hp).trans h
theorem heap_al {W : World} {o o' : Obj} {b : Nat} (h : W.heap[b]? = some o) : (W.alloc o').heap[b]? = some o := (Below.heap_alloc W o' b (Array.getElem?_eq_some_iff.1 h).1).trans h

theorem grown_own {w W w1 : World} {r row : Option Nat} (h : w.grownBy W r) (hg : W.grownBy w1 row) (hrow : ∀ k, row = some k → w.heap.size ≤ k) : w.grownBy w1 r :=
  ⟨hg.os.trans h.os, hg.tape.trans h.tape, hg.output.trans h.output, Nat.le_trans h.size hg.size, fun i hi hne => (hg.block i (Nat.lt_of_lt_of_le hi h.size) (fun e => by have := hrow i e.symm; omega)).trans (h.block i hi hne)⟩
theorem frozen_al {W : World} {o : Obj} {a : Addr} (h : a.block < W.heap.size) (hf : W.frozen? a = false) : (W.alloc o).frozen? a = false := by
  rw [World.frozen?_alloc_old _ _ a (Nat.ne_of_lt h)]; exact hf
theorem frozen_dr {W : World} {a : Addr} (hf : W.frozen? a = false) : W.drew.frozen? a = false := hf
theorem own_cells {w : World} {B : Nat} {E : TypeId} {size : Nat} {v : Value} {n : Nat} {xs : List Value} (h : w.ownsRow B E size v n xs) (hn : 0 < n) :
    ∃ g c, v = .slice (some ⟨g, 0, none⟩) n c ∧ B ≤ g ∧ g < w.heap.size ∧ ∀ j u, xs[j]? = some u → w.cell? ⟨g, j, none⟩ = some u := by
  have hc := fun g => @World.ownsRow.cells _ _ _ _ _ _ _ h g
  have hlt := World.ownsRow.lt h
  rcases h.2 with ⟨h0, h1⟩ | ⟨g, cap, cur, h0, hb, _, h1, h2, _⟩
  · omega
  · subst h0
    refine ⟨g, cap, rfl, hb, (hlt g rfl).2, fun j u hj => ?_⟩
    have := hc g rfl j u hj
    unfold Addr.add at this
    split at this
    · next h => subst h; exact this
    · simpa using this
theorem own_none {w : World} {B : Nat} {E : TypeId} {size : Nat} {v : Value} {n : Nat} {xs : List Value} (h : w.ownsRow B E size v n xs) : ∃ A c, v = .slice A n c ∧ n ≤ 9223372036854775807 ∧ n ≤ c := by
  rcases h.2 with ⟨rfl, hn⟩ | ⟨g, cap, cur, rfl, _, _, h1, h2, _⟩
  · exact ⟨none, 0, by rw [hn], by omega, by omega⟩
  · simp only [maxLen] at h2
    exact ⟨_, cap, rfl, by omega, h1⟩
theorem own_below {w w1 : World} {B : Nat} {E : TypeId} {size : Nat} {v : Value} {n : Nat} {xs : List Value} (h : w.ownsRow B E size v n xs) (hb : Below w.heap.size w w1) : w1.ownsRow B E size v n xs :=
  World.ownsRow.kept (row := none) h ⟨hb.os, hb.tape, hb.output, hb.size, fun i hi _ => hb.block i hi⟩ (by cases v.ownBlock <;> simp)
theorem IntsV.blk {w w' : World} {g n c : Nat} {xs : List Int} (h : IntsV w (.slice (some ⟨g, 0, none⟩) n c) xs) (hb : w'.heap[g]? = w.heap[g]?) (hs : w.heap.size ≤ w'.heap.size) : IntsV w' (.slice (some ⟨g, 0, none⟩) n c) xs := by
  obtain ⟨A, c', he, hl, hx⟩ := h
  refine ⟨A, c', he, hl, fun j x hj => ?_⟩
  obtain ⟨hr, b, o, hA, hlt, hc⟩ := hx j x hj
  injection he with he
  subst he
  obtain ⟨rfl, rfl⟩ : g = b ∧ 0 = o := by simpa using hA
  exact ⟨hr, g, 0, rfl, Nat.lt_of_lt_of_le hlt hs, (World.cell?_of_block hb).trans hc⟩
end Go.Proofs.YtldnkeackphilaaGreatDoor
namespace Go.Proofs.YtldnkeackphilaaGreatDoor
open Go.RowKit

inductive AV where
  | imm (v : Value)
  | sl (es : List (List AV))
  | ptr (cs : List AV)
  | box (T : TypeId) (cs : List AV)
  | agg (cs : List AV)
  | tup (as : List AV)
  | ifc (t : TypeId) (a : AV)
  | ref (r off : Nat)
  | cnd (y : Bool) (a : AV)
  | dead
  | nl
  | elt (n i j : Nat)
  | rw (n lo len : Nat)
  | fnc (f : Nat) (cs : List AV)
instance : Inhabited AV := ⟨.dead⟩
abbrev Gh := Nat → Nat → AV → Prop
structure Gle (G H : Gh) : Prop where
  get : ∀ g i a, G g i a → H g i a
theorem Gle.refl (G : Gh) : Gle G G := ⟨fun _ _ _ h => h⟩
theorem Gle.trans {G H K : Gh} (h : Gle G H) (k : Gle H K) : Gle G K := ⟨fun g i a e => k.get g i a (h.get g i a e)⟩
inductive RS (G : Gh) : Value → AV → Prop
  | imm (v : Value) (h : v.oneCell' = true) : RS G v (.imm v)
  | nil {A : Option Addr} : RS G (.slice A 0 0) (.sl [])
  | sl (g o sz c : Nat) (es : List (List AV)) (hsz : ∀ e ∈ es, e.length = sz) (hc : es.length ≤ c) (hcell : ∀ (i : Nat) (e : List AV) (j : Nat) (a : AV), es[i]? = some e → e[j]? = some a → G g (o + i * sz + j) a) :
      RS G (.slice (some ⟨g, o, none⟩) es.length c) (.sl es)
  | ptr (g o : Nat) (cs : List AV) (hcell : ∀ (j : Nat) (a : AV), cs[j]? = some a → G g (o + j) a) : RS G (.pointer (some ⟨g, o, none⟩)) (.ptr cs)
  | agg (vs : Array Value) (cs : List AV) (hl : vs.size = cs.length) (h1 : ∀ (j : Nat) (v : Value), vs[j]? = some v → v.oneCell' = true) (h : ∀ (j : Nat) (v : Value) (a : AV), vs[j]? = some v → cs[j]? = some a → RS G v a) : RS G (.agg vs) (.agg cs)
  | tup (vs : Array Value) (cs : List AV) (hl : vs.size = cs.length) (h : ∀ (j : Nat) (v : Value) (a : AV), vs[j]? = some v → cs[j]? = some a → RS G v a) : RS G (.tuple vs) (.tup cs)
  | ifc (t : TypeId) (v : Value) (a : AV) (h : RS G v a) : RS G (.iface t v) (.ifc t a)
theorem RS.mono {G H : Gh} (hg : Gle G H) {v : Value} {a : AV} (h : RS G v a) : RS H v a := by
  induction h with
  | imm v h => exact .imm v h
  | nil => exact .nil
  | sl g o sz c es hsz hc hcell => exact .sl g o sz c es hsz hc fun i e j a h1 h2 => hg.get _ _ _ (hcell i e j a h1 h2)
  | ptr g o cs hcell => exact .ptr g o cs fun j a h => hg.get _ _ _ (hcell j a h)
  | agg vs cs hl h1 _ ih => exact .agg vs cs hl h1 ih
  | tup vs cs hl _ ih => exact .tup vs cs hl ih
  | ifc t v a _ ih => exact .ifc t v a ih
def AV.cells : AV → List AV
  | .agg cs => cs
  | a => [a]
def AV.whole : AV → Bool
  | .tup _ => false
  | _ => true
theorem RS.cells {G : Gh} {v : Value} {a : AV} (h : RS G v a) (hw : a.whole = true) : v.cells.size = a.cells.length ∧ ∀ (j : Nat) u b, v.cells[j]? = some u → a.cells[j]? = some b → RS G u b ∧ u.oneCell' = true := by
  have one : ∀ {v : Value} {a : AV}, RS G v a → v.oneCell' = true → v.cells = #[v] → a.cells = [a] → v.cells.size = a.cells.length ∧ ∀ (j : Nat) u b, v.cells[j]? = some u → a.cells[j]? = some b → RS G u b ∧ u.oneCell' = true := by
    intro v a h h1 hv ha
    rw [hv, ha]
    refine ⟨rfl, fun j u b hu hb => ?_⟩
    cases j with
    | zero => simp at hu hb; subst hu hb; exact ⟨h, h1⟩
    | succ j => simp at hb
  cases h with
  | imm v h => exact one (.imm v h) h (by cases v <;> first | rfl | cases h) rfl
  | nil => exact one .nil rfl rfl rfl
  | sl g o sz c es hsz hc hcell => exact one (.sl g o sz c es hsz hc hcell) rfl rfl rfl
  | ptr g o cs hcell => exact one (.ptr g o cs hcell) rfl rfl rfl
  | agg vs cs hl h1 h => exact ⟨hl, fun j u b hu hb => ⟨h j u b hu hb, h1 j u hu⟩⟩
  | tup => cases hw
  | ifc t v a h => exact one (.ifc t v a h) rfl rfl rfl
def AV.comp : AV → Bool
  | .agg _ => true
  | .tup _ => true
  | .box _ _ => true
  | _ => false
def AV.plain : AV → Bool
  | .box _ _ => false
  | .cnd _ _ => false
  | .dead => false
  | _ => true
def constCell : Value → AV
  | .slice none 0 0 => .sl []
  | v => .imm v
def constAV : Value → AV
  | .agg vs => .agg (vs.toList.map constCell)
  | .tuple vs => if vs.size = 0 then .tup [] else .dead
  | v => constCell v

structure St where
  val : Nat → AV
  tok : Nat → Nat → Option (Option TypeId)
abbrev Om := Nat → Option (Nat × Nat)
def szP (P : Program) (t : TypeId) : Nat := ((P.info? t).map (·.size)).getD 0
def pv (w : World) (tm : Array Value) (t : Nat) : Nat → Value
  | 0 => tm.getD t undef
  | k + 1 => match tm.getD t undef with
    | .agg vs => vs.getD k undef
    | .tuple vs => (vs.toList.flatMap fun v => v.cells.toList).getD k undef
    | .pointer (some a) => (w.cell? ⟨a.block, a.off + k, none⟩).getD undef
    | _ => undef
structure Gl (G : Gh) : Prop where
  ml : ∃ m : Int, G 1 0 (.imm (.int .i64 m))
  et : G 0 0 (.imm (.iface 240 (.agg #[.pointer (some ⟨4, 44, none⟩)])))
theorem Gl.mono {G H : Gh} (h : Gl G) (hg : Gle G H) : Gl H := ⟨h.ml.imp fun _ h => hg.get _ _ _ h, hg.get _ _ _ h.et⟩
structure CellsR (G : Gh) (w : World) : Prop where
  get : ∀ g i a, G g i a → ∃ v, w.cell? ⟨g, i, none⟩ = some v ∧ v.oneCell' = true ∧ RS G v a
  gl : Gl G
instance (G : Gh) (w : World) : CoeFun (CellsR G w) fun _ => ∀ g i a, G g i a → ∃ v, w.cell? ⟨g, i, none⟩ = some v ∧ v.oneCell' = true ∧ RS G v a := ⟨CellsR.get⟩
def TokR (P : Program) (G : Gh) (O : Om) (w : World) (v : Value) (p : Nat × Nat) : Option TypeId → Prop
  | none => v = .slice none 0 0
  | some E => ∃ n xs, w.ownsRow 0 E (szP P E) v n xs ∧ ∀ g, v.ownBlock = some g → O g = some p ∧ ∀ i a, n * szP P E ≤ i → ¬ G g i a
inductive RV (G : Gh) (O : Om) (w : World) (tm : Array Value) (vl : Nat → AV) (t : Nat) : Value → AV → Prop
  | sh {v : Value} {a : AV} (h : RS G v a) : RV G O w tm vl t v a
  | box (g : Nat) (T : TypeId) (cs : List AV) (vs : Array Value) (ho : O g = some (t, 0)) (hg : ∀ i a, ¬ G g i a) (hh : w.heap[g]? = some (.cells vs T (0, 0))) (hl : vs.size = cs.length)
      (hc : ∀ (j : Nat) (v : Value) (a : AV), vs[j]? = some v → cs[j]? = some a → v.oneCell' = true ∧ RS G v a) : RV G O w tm vl t (.pointer (some ⟨g, 0, none⟩)) (.box T cs)
  | ref (r off g : Nat) (hr : tm.getD r undef = .pointer (some ⟨g, 0, none⟩)) (hb : ∃ T cs, vl r = .box T cs) : RV G O w tm vl t (.pointer (some ⟨g, off, none⟩)) (.ref r off)
  | cnd (y : Bool) (v : Value) (a : AV) (h1 : y = true → RV G O w tm vl t v a) (h2 : y = false → v = undef) (h3 : a.plain = true) : RV G O w tm vl t v (.cnd y a)
  | dead (v : Value) : RV G O w tm vl t v .dead
structure Rel (P : Program) (N : Nat) (G : Gh) (O : Om) (w : World) (tm : Array Value) (st : St) : Prop where
  size : tm.size = N
  cells : CellsR G w
  owned : ∀ g p, O g = some p → g < w.heap.size
  vals : ∀ t, RV G O w tm st.val t (tm.getD t undef) (st.val t)
  toks : ∀ t k E, st.tok t k = some E → TokR P G O w (pv w tm t k) (t, k) E
structure Fr (G : Gh) (O : Om) (w : World) (G' : Gh) (O' : Om) (w' : World) : Prop where
  os : w'.os = w.os
  tape : w'.tape = w.tape
  output : w'.output = w.output
  size : w.heap.size ≤ w'.heap.size
  le : Gle G G'
  old : ∀ g, g < w.heap.size → O g = none → w'.heap[g]? = w.heap[g]? ∧ G' g = G g ∧ O' g = none
theorem Fr.refl (G : Gh) (O : Om) (w : World) : Fr G O w G O w := ⟨rfl, rfl, rfl, Nat.le_refl _, .refl _, fun _ _ h => ⟨rfl, rfl, h⟩⟩
end Go.Proofs.YtldnkeackphilaaGreatDoor
namespace Go.Proofs.YtldnkeackphilaaGreatDoor
open Go.RowKit

def AV.killR (d : Nat) : AV → AV
  | .ref r off => if r = d then .dead else .ref r off
  | .cnd y (.ref r off) => if r = d then .dead else .cnd y (.ref r off)
  | a => a
def noSrc : Nat → Nat → Bool := fun _ _ => false
def noTok : Nat → Option (Option TypeId) := fun _ => none
def St.put (st : St) (src : Nat → Nat → Bool) (d : Nat) (a : AV) (tk : Nat → Option (Option TypeId)) : St :=
  ⟨fun u => if u = d then a else (st.val u).killR d, fun t k => if t = d then tk k else if src t k then none else st.tok t k⟩
structure Rl (P : Program) (N : Nat) (G : Gh) (O : Om) (w : World) (tm : Array Value) (st : St) : Prop extends Rel P N G O w tm st where
  comp : ∀ t k E, st.tok t (k + 1) = some E → (st.val t).comp = true
theorem getD_set_eq' {tm : Array Value} {d : Nat} (h : d < tm.size) (v : Value) : (tm.setIfInBounds d v).getD d undef = v := by simp [h]
theorem getD_set_ne' {tm : Array Value} {d t : Nat} (h : t ≠ d) (v : Value) : (tm.setIfInBounds d v).getD t undef = tm.getD t undef := by
  simp [Array.getElem?_setIfInBounds_ne (Ne.symm h)]
def AV.shared : AV → Bool
  | .box _ _ => false
  | .ref _ _ => false
  | .cnd _ _ => false
  | .dead => false
  | _ => true
theorem RV.rs {G : Gh} {O : Om} {w : World} {tm : Array Value} {vl : Nat → AV} {t : Nat} {v : Value} {a : AV} (h : RV G O w tm vl t v a) (ha : a.shared = true) : RS G v a := by
  cases h with
  | sh h => exact h
  | box => cases ha
  | ref => cases ha
  | cnd => cases ha
  | dead => cases ha
end Go.Proofs.YtldnkeackphilaaGreatDoor
namespace Go.Proofs.YtldnkeackphilaaGreatDoor
open Go.RowKit

def gset (G : Gh) (g : Nat) (f : Nat → Option AV) : Gh := fun g' i a => G g' i a ∨ (g' = g ∧ f i = some a)
theorem gset_fresh {G : Gh} {g : Nat} (h : ∀ i a, ¬ G g i a) (f : Nat → Option AV) (i : Nat) (a : AV) : gset G g f g i a = (f i = some a) := by simp [gset, h i a]
theorem gset_le (G : Gh) (g : Nat) (f : Nat → Option AV) : Gle G (gset G g f) := ⟨fun _ _ _ h => .inl h⟩
theorem gset_ne (G : Gh) {g g' : Nat} (f) (h : g' ≠ g) : gset G g f g' = G g' := by funext i a; simp [gset, h]
theorem flat_get {sz : Nat} : ∀ {es : List (List AV)}, (∀ e ∈ es, e.length = sz) → ∀ {i : Nat} {e : List AV} {j : Nat} {a : AV}, es[i]? = some e → e[j]? = some a → es.flatten[i * sz + j]? = some a
  | [], _, _, _, _, _, h, _ => by simp at h
  | x :: xs, hs, i, e, j, a, hi, hj => by
    have hx : x.length = sz := hs x (by simp)
    cases i with
    | zero =>
      simp only [List.getElem?_cons_zero, Option.some.injEq] at hi
      subst hi
      have hlt : j < x.length := (List.getElem?_eq_some_iff.1 hj).1
      simp only [List.flatten_cons, Nat.zero_mul, Nat.zero_add]
      rw [List.getElem?_append_left hlt]
      exact hj
    | succ i =>
      simp only [List.getElem?_cons_succ] at hi
      have ih := flat_get (es := xs) (fun e he => hs e (by simp [he])) hi hj
      simp only [List.flatten_cons]
      rw [List.getElem?_append_right (by rw [hx, Nat.add_mul]; omega), hx, show (i + 1) * sz + j - sz = i * sz + j by rw [Nat.add_mul]; omega]
      exact ih
theorem flat_len {sz : Nat} {es : List (List AV)} (h : ∀ e ∈ es, e.length = sz) : es.flatten.length = es.length * sz := by
  induction es with
  | nil => simp
  | cons e es ih => rw [List.flatten_cons, List.length_append, ih (fun x hx => h x (by simp [hx])), h e (by simp), List.length_cons, Nat.add_mul]; omega
theorem flat_inv {sz : Nat} : ∀ {es : List (List AV)}, (∀ e ∈ es, e.length = sz) → ∀ {k : Nat} {a : AV}, es.flatten[k]? = some a → ∃ i e j, es[i]? = some e ∧ e[j]? = some a ∧ k = i * sz + j
  | [], _, _, _, h => by simp at h
  | x :: xs, hs, k, a, h => by
    have hx : x.length = sz := hs x (by simp)
    rw [List.flatten_cons] at h
    by_cases hk : k < x.length
    · rw [List.getElem?_append_left hk] at h
      exact ⟨0, x, k, rfl, h, by simp⟩
    · rw [List.getElem?_append_right (by omega)] at h
      obtain ⟨i, e, j, h1, h2, h3⟩ := flat_inv (fun e he => hs e (by simp [he])) h
      exact ⟨i + 1, e, j, by simpa using h1, h2, by rw [Nat.add_mul]; omega⟩
theorem RS.flat {G : Gh} {A : Option Addr} {n c sz : Nat} {es : List (List AV)} (h : RS G (.slice A n c) (.sl es)) (hsz : ∀ e ∈ es, e.length = sz) : n = es.length ∧ n ≤ c ∧ (0 < es.length → ∃ g o, A = some ⟨g, o, none⟩ ∧ ∀ (k : Nat) a, es.flatten[k]? = some a → G g (o + k) a) := by
  cases h with
  | nil => exact ⟨rfl, Nat.le_refl _, fun h => absurd h (by simp)⟩
  | sl g o sz' c es hsz' hc hcell =>
    refine ⟨rfl, hc, fun h0 => ⟨g, o, rfl, fun k a hk => ?_⟩⟩
    obtain ⟨i, e, j, h1, h2, rfl⟩ := flat_inv hsz hk
    have he := List.mem_of_getElem? h1
    have : sz' = sz := (hsz' e he).symm.trans (hsz e he)
    subst this
    have := hcell i e j a h1 h2
    rwa [← Nat.add_assoc]
theorem run_append_tok {P : Program} (w : World) (t ty e : TypeId) (i : TypeInfo) (z : Value) (ht : P.underlying t = some (.slice e)) (hi : P.info? e = some i) (hz : i.zero = some z) (hzs : z.cells.size = i.size) (hsz : 0 < i.size)
    (v : Value) (n : Nat) (xs : List Value) (hown : w.ownsRow 0 e i.size v n xs) (A : Option Addr) (m c : Nat) (news : List Value) (hl : news.length = m * i.size) (hA : 0 < m → ∃ a, A = some a ∧ ∀ j u, news[j]? = some u → w.cell? (a.add j) = some u) (h1 : ∀ u ∈ news, u.oneCell' = true)
    (hbytes : (n + m) * i.bytes ≤ 140737488355328) (h63 : n + m ≤ 9223372036854775807) :
    ∃ v' w', (Builtin.append_ #[t, t] ty #[v, .slice A m c]).run P w = .ok v' w' ∧ w'.ownsRow 0 e i.size v' (n + m) (xs ++ news) ∧
      ((v'.ownBlock = v.ownBlock ∧ w.grownBy w' v.ownBlock) ∨ (v'.ownBlock = some w.heap.size ∧ w.grownBy w' none ∧ w.heap.size < w'.heap.size)) := by
  by_cases hm : m = 0
  · subst hm
    obtain rfl : news = [] := List.eq_nil_of_length_eq_zero (by simpa using hl)
    refine ⟨v, w, ?_, by simpa using hown, .inl ⟨rfl, World.grownBy.refl _ _⟩⟩
    rcases hown.2 with ⟨rfl, rfl⟩ | ⟨g, cap, cur, rfl, hbg, hg, hnc, hcm, hcs, htake⟩
    · cases A <;> simp [Builtin.append_, run_underlying ht, sizeOf, typeInfo, hi, Builtin.lenOf, Builtin.firstCells, loadCells, loadCellsFrom]
    · cases A <;> simp [Builtin.append_, run_underlying ht, sizeOf, typeInfo, hi, Builtin.lenOf, Builtin.firstCells, loadCells, loadCellsFrom, hnc, storeCells]
  · obtain ⟨a, rfl, hnews⟩ := hA (by omega)
    have hmx : n + m ≤ maxLen := by simpa [maxLen] using h63
    have hlen : (xs ++ news).length = (n + m) * i.size := by rw [List.length_append, hown.1, hl, Nat.add_mul]
    have grown : ∀ (old : Nat), old < n + m →
        (w.drew.alloc (.cells (xs.toArray ++ news.toArray ++ Builtin.zeroCells z.cells (grownCap w (n + m) old e - (n + m))) e)).ownsRow 0 e i.size
          (.slice (some ⟨w.heap.size, 0, none⟩) (n + m) (grownCap w (n + m) old e)) (n + m) (xs ++ news) ∧
        w.grownBy (w.drew.alloc (.cells (xs.toArray ++ news.toArray ++ Builtin.zeroCells z.cells (grownCap w (n + m) old e - (n + m))) e)) none := by
      intro old ho
      have hge := grownCap_ge w (n + m) old e
      have hcm : grownCap w (n + m) old e ≤ maxLen := grownCap_le_maxLen w (n + m) old e hmx
      refine ⟨⟨hlen, .inr ⟨w.heap.size, _, _, rfl, Nat.zero_le _, heap_alloc_new w.drew _, hge, hcm, ?_, ?_⟩⟩, ⟨rfl, rfl, rfl, by simp, fun k hk _ => Below.heap_alloc w.drew _ k hk⟩⟩
      · simp only [Array.size_append, List.size_toArray, size_zeroCells, hzs, hown.1, hl, ← Nat.add_mul]
        congr 1
        omega
      · simp only [Array.toList_append, List.append_assoc]
        rw [← List.append_assoc, ← hlen]
        exact List.take_left
    rcases hown.2 with ⟨rfl, rfl⟩ | ⟨g, cap, cur, rfl, hbg, hg, hnc, hcm, hcs, htake⟩
    · obtain rfl : xs = [] := List.eq_nil_of_length_eq_zero (by simpa using hown.1)
      have hr := run_append_nil (P := P) w t ty e i z ht hi hz a m c news hl hnews (by omega) (by omega) (by have hb := hbytes; simp only [Nat.zero_add] at hb; omega)
      have hgr := grown 0 (by omega)
      simp only [Nat.zero_add, List.nil_append, Array.empty_append] at hgr ⊢
      exact ⟨_, _, hr, hgr.1, .inr ⟨rfl, hgr.2, by simp⟩⟩
    · by_cases hroom : n + m ≤ cap
      · have hfit : n * i.size + news.length ≤ cur.size := by rw [hl, hcs, ← Nat.add_mul]; exact Nat.mul_le_mul_right _ hroom
        have hr := run_append_room (P := P) w t ty e i ht hi g n cap cur hg a m c news hl hnews h1 hroom hfit
        refine ⟨_, _, hr, ⟨hlen, .inr ⟨g, cap, _, rfl, Nat.zero_le _, setRow_heap w g cur _ e _ hg, hroom, hcm, ?_, ?_⟩⟩, .inl ⟨rfl, rfl, rfl, rfl, by simp, fun k _ hk => setRow_other w g k _ (fun e => hk (by simp [Value.ownBlock, e]))⟩⟩
        · simp only [List.size_toArray, List.length_append, List.length_take, List.length_drop, Array.length_toList]
          omega
        · rw [htake, ← hlen]
          exact List.take_left
      · have holds : ∀ j u, xs[j]? = some u → w.cell? ((⟨g, 0, none⟩ : Addr).add j) = some u := hown.cells (g := g) rfl
        have hr := run_append_grow (P := P) w t ty e i z ht hi hz ⟨g, 0, none⟩ n cap xs hown.1 holds a m c news hl hnews (by omega) (by omega) (growslice_fits (by omega) hbytes)
        have hgr := grown cap (by omega)
        exact ⟨_, _, hr, hgr.1, .inr ⟨rfl, hgr.2, by simp⟩⟩
end Go.Proofs.YtldnkeackphilaaGreatDoor
namespace Go.Proofs.YtldnkeackphilaaGreatDoor
open Go.RowKit

end Go.Proofs.YtldnkeackphilaaGreatDoor
namespace Go.Proofs.YtldnkeackphilaaGreatDoor
open Go.RowKit

def setsA (vs : Array Value) : Nat → List Value → Array Value
  | _, [] => vs
  | o, u :: us => setsA (vs.setIfInBounds o u) (o + 1) us
theorem setsA_size : ∀ (us : List Value) (o : Nat) (vs : Array Value), (setsA vs o us).size = vs.size
  | [], _, _ => rfl
  | u :: us, o, vs => by rw [setsA, setsA_size us]; simp
theorem setsA_get : ∀ (us : List Value) (o : Nat) (vs : Array Value), o + us.length ≤ vs.size → ∀ j, (setsA vs o us)[j]? = if o ≤ j ∧ j < o + us.length then us[j - o]? else vs[j]?
  | [], o, vs, _, j => by rw [setsA, if_neg (by simp; try omega)]
  | u :: us, o, vs, h, j => by
    simp only [List.length_cons] at h
    rw [setsA, setsA_get us (o + 1) _ (by simp; omega) j]
    by_cases h1 : o + 1 ≤ j ∧ j < o + 1 + us.length
    · rw [if_pos h1, if_pos (by simp; omega), show j - o = (j - (o + 1)) + 1 by omega, List.getElem?_cons_succ]
    · rw [if_neg h1]
      by_cases h2 : j = o
      · subst h2
        rw [if_pos (by simp)]
        simp only [Nat.sub_self, List.getElem?_cons_zero]
        rw [Array.getElem?_setIfInBounds_self_of_lt (by omega)]
      · rw [if_neg (by simp; omega), Array.getElem?_setIfInBounds_ne (Ne.symm h2)]
theorem setCells_blk {g : Nat} {T : TypeId} : ∀ (us : List Value) (o : Nat) (w : World) (vs : Array Value), w.heap[g]? = some (.cells vs T (0, 0)) → (w.setCells g o us).heap[g]? = some (.cells (setsA vs o us) T (0, 0))
  | [], _, _, _, h => h
  | u :: us, o, w, vs, h => by
    rw [World.setCells, setsA]
    exact setCells_blk us (o + 1) _ _ (blk_set h o u)
theorem setCells_far {g g' : Nat} (hne : g' ≠ g) : ∀ (us : List Value) (o : Nat) (w : World), (w.setCells g o us).heap[g']? = w.heap[g']?
  | [], _, _ => rfl
  | u :: us, o, w => by
    rw [World.setCells, setCells_far hne us]
    exact Below.heap_setCell _ _ _ _ hne
theorem setCells_rest {g : Nat} : ∀ (us : List Value) (o : Nat) (w : World), (w.setCells g o us).os = w.os ∧ (w.setCells g o us).tape = w.tape ∧ (w.setCells g o us).output = w.output ∧ (w.setCells g o us).heap.size = w.heap.size
  | [], _, _ => ⟨rfl, rfl, rfl, rfl⟩
  | u :: us, o, w => by
    rw [World.setCells]
    obtain ⟨h1, h2, h3, h4⟩ := setCells_rest (g := g) us (o + 1) (w.setCell ⟨g, o, none⟩ u)
    exact ⟨h1, h2, h3, h4.trans (by simp [World.setCell])⟩
def spliceL (cs : List AV) (off : Nat) (as : List AV) : List AV := cs.take off ++ as ++ cs.drop (off + as.length)
theorem splice_len {cs : List AV} {off : Nat} {as : List AV} (h : off + as.length ≤ cs.length) : (spliceL cs off as).length = cs.length := by simp [spliceL]; omega
theorem splice_get {cs : List AV} {off : Nat} {as : List AV} (h : off + as.length ≤ cs.length) (j : Nat) : (spliceL cs off as)[j]? = if off ≤ j ∧ j < off + as.length then as[j - off]? else cs[j]? := by
  unfold spliceL
  by_cases h1 : j < off
  · rw [if_neg (by omega), List.append_assoc, List.getElem?_append_left (by simp; omega), List.getElem?_take_of_lt h1]
  · by_cases h2 : j < off + as.length
    · rw [if_pos (by omega), List.getElem?_append_left (by simp; omega), List.getElem?_append_right (by simp; omega)]
      congr 1
      simp
      omega
    · rw [if_neg (by omega), List.getElem?_append_right (by simp; omega), List.getElem?_drop]
      congr 1
      simp
      omega
def St.sto (st : St) (src : Nat → Nat → Bool) (r off : Nat) (T : TypeId) (cs as : List AV) (tk : Nat → Option (Option TypeId)) : St :=
  ⟨fun u => if u = r then .box T (spliceL cs off as) else st.val u, fun t k => if t = r ∧ off + 1 ≤ k ∧ k ≤ off + as.length then tk (k - off - 1) else if src t k then none else st.tok t k⟩
end Go.Proofs.YtldnkeackphilaaGreatDoor
namespace Go.Proofs.YtldnkeackphilaaGreatDoor
open Go.RowKit

def St.one (a : AV) (tk : Nat → Option (Option TypeId)) : St := ⟨fun t => if t = 0 then a else .dead, fun t k => if t = 0 then tk k else none⟩
def noOm : Om := fun _ => none
def AV.final : AV → Bool
  | .ref _ _ => false
  | .cnd _ _ => false
  | _ => true
structure Has (P : Program) (f : FuncId) (args : List AV) (a : AV) (rt : Nat → Option (Option TypeId)) : Prop where
  fin : a.final = true
  enters : ∀ vals w, (callFunc f vals).run P w = .ok (.enter f vals) w
  calls : ∀ G w (vals : Array Value), CellsR G w → vals.size = args.length → (∀ (i : Nat) v b, vals[i]? = some v → args[i]? = some b → RS G v b) →
    Calls P f vals w fun e w' => ∃ v G' O', e = .returned v ∧ Rl P 1 G' O' w' #[v] (St.one a rt) ∧ Fr G noOm w G' O' w'
end Go.Proofs.YtldnkeackphilaaGreatDoor
namespace Go.Proofs.YtldnkeackphilaaGreatDoor
open Go.RowKit

def St.get (st : St) : Operand → AV
  | .tmp t => match st.val t with
    | .box _ _ => .ref t 0
    | .cnd _ a => a
    | a => a
  | .const v => constAV v
  | .global g => .imm (.pointer (some ⟨g, 0, none⟩))
  | .func f => .imm (.func (.func f) #[] #[])
def St.ok (st : St) (y : Bool) : Operand → Prop
  | .tmp t => match st.val t with
    | .cnd y' _ => y = true → y' = true
    | .dead => False
    | _ => True
  | .const v => v.oneCell' = true ∨ ∃ vs, v = .agg vs ∧ vs.all (·.oneCell') = true
  | _ => True
end Go.Proofs.YtldnkeackphilaaGreatDoor
namespace Go.Proofs.YtldnkeackphilaaGreatDoor
open Go.RowKit

def isRowT (P : Program) (T : TypeId) : Bool := match P.underlying T with
  | some (.struct _) => true
  | some (.array _ _) => true
  | _ => false
def ldA (P : Program) (T : TypeId) (cs : List AV) : AV := if isRowT P T then .agg (cs.take (szP P T)) else cs.headD .dead
def ldC (P : Program) (T : TypeId) (cs : List AV) : Prop := if isRowT P T then (P.info? T).isSome = true ∧ szP P T ≤ cs.length else (P.underlying T).isSome = true ∧ 0 < cs.length
def intA (op : BinOp) (k : IntKind) (x y : Int) : AV := match op with
  | .add => .imm (.int k (k.wrap (x + y)))
  | .sub => .imm (.int k (k.wrap (x - y)))
  | .mul => .imm (.int k (k.wrap (x * y)))
  | .quo => .imm (.int k (k.wrap (x.tdiv y)))
  | .rem => .imm (.int k (x.tmod y))
  | .and => .imm (.int k (k.wrap (BitVec.ofInt k.bits x &&& BitVec.ofInt k.bits y).toNat))
  | .or => .imm (.int k (k.wrap (BitVec.ofInt k.bits x ||| BitVec.ofInt k.bits y).toNat))
  | .xor => .imm (.int k (k.wrap (BitVec.ofInt k.bits x ^^^ BitVec.ofInt k.bits y).toNat))
  | .eql => .imm (.bool (x == y))
  | .neq => .imm (.bool (x != y))
  | .lss => .imm (.bool (decide (x < y)))
  | .leq => .imm (.bool (decide (x ≤ y)))
  | .gtr => .imm (.bool (decide (x > y)))
  | .geq => .imm (.bool (decide (x ≥ y)))
  | _ => .dead
def intC (op : BinOp) (y : Int) : Prop := match op with
  | .shl | .shr | .andNot => False
  | .quo | .rem => y ≠ 0
  | _ => True
def strA (op : BinOp) (x y : ByteArray) : AV := match op with
  | .add => .imm (.string (x ++ y))
  | .eql => .imm (.bool (x.toList == y.toList))
  | .neq => .imm (.bool (!(x.toList == y.toList)))
  | .lss => .imm (.bool (Op.bytesLess x.toList y.toList))
  | .leq => .imm (.bool (Op.bytesLess x.toList y.toList || x.toList == y.toList))
  | .gtr => .imm (.bool (!(Op.bytesLess x.toList y.toList || x.toList == y.toList)))
  | .geq => .imm (.bool (!(Op.bytesLess x.toList y.toList)))
  | _ => .dead
def strC (op : BinOp) (x y : ByteArray) : Prop := match op with
  | .add => x.size + y.size ≤ 9223372036854775807
  | .eql | .neq | .lss | .leq | .gtr | .geq => True
  | _ => False
def eqlA (op : BinOp) (b : Bool) : AV := match op with
  | .eql => .imm (.bool b)
  | .neq => .imm (.bool (!b))
  | _ => .dead
def eqlC (op : BinOp) : Prop := match op with
  | .eql | .neq => True
  | _ => False
def isConstO : Operand → Bool
  | .const _ => true
  | _ => false
def kindP (P : Program) (T : TypeId) : Option IntKind := match P.underlying T with
  | some (.int k) => some k
  | _ => none
def strP (P : Program) (T : TypeId) : Bool := match P.underlying T with
  | some .string => true
  | _ => false
def boolP (P : Program) (T : TypeId) : Bool := match P.underlying T with
  | some .bool => true
  | _ => false
def eqV : AV → AV → Bool
  | .imm (.int _ x), .imm (.int _ y) => x == y
  | .imm (.bool x), .imm (.bool y) => x == y
  | .imm (.string x), .imm (.string y) => x.toList == y.toList
  | _, _ => false
def eqCs : List AV → List AV → Bool
  | a :: as, b :: bs => eqV a b && eqCs as bs
  | _, _ => true
def eq1C (P : Program) (t : TypeId) : AV → AV → Prop
  | .imm (.int k _), .imm (.int k' _) => (kindP P t).isSome = true ∧ k = k'
  | .imm (.bool _), .imm (.bool _) => boolP P t = true
  | .imm (.string _), .imm (.string _) => strP P t = true
  | _, _ => False
def eqFC (P : Program) : List TypeId → List AV → List AV → Prop
  | [], [], [] => True
  | t :: ts, a :: as, b :: bs => eq1C P t a b ∧ eqFC P ts as bs
  | _, _, _ => False
def fldOk : Nat → List Field → Bool
  | _, [] => true
  | j, f :: fs => f.name != "_" && f.offset == j && fldOk (j + 1) fs
def eqTP (P : Program) (T : TypeId) : Bool := (match P.underlying T with
  | some (.struct fs) => fldOk 0 fs.toList
  | _ => false) && !P.stoodInHeld T && !P.eqGuardType P.depth T
def typsP (P : Program) (T : TypeId) : List TypeId := (P.fieldsOf T).toList.map (·.type)
def binA (op : BinOp) : AV → AV → AV
  | .agg as, .agg bs => eqlA op (eqCs as bs)
  | .imm (.int k x), .imm (.int _ y) => intA op k x y
  | .imm (.string x), .imm (.string y) => strA op x y
  | .imm (.bool x), .imm (.bool y) => eqlA op (x == y)
  | .imm (.pointer none), .imm (.pointer none) => eqlA op true
  | .ptr _, .imm (.pointer none) => eqlA op false
  | .ref _ _, .imm (.pointer none) => eqlA op false
  | .imm .nilIface, .imm .nilIface => eqlA op true
  | .ifc _ _, .imm .nilIface => eqlA op false
  | _, _ => .dead
def isPtrT (P : Program) (T : TypeId) : Prop := match P.underlying T with
  | some (.pointer _) => True
  | _ => False
def isIfcT (P : Program) (T : TypeId) : Prop := match P.underlying T with
  | some (.interface _) => True
  | _ => False
def isBoolT (P : Program) (T : TypeId) : Prop := match P.underlying T with
  | some .bool => True
  | _ => False
def binC (P : Program) (op : BinOp) (T : TypeId) (cst : Bool) : AV → AV → Prop
  | .agg as, .agg bs => eqlC op ∧ eqTP P T = true ∧ eqFC P (typsP P T) as bs
  | .imm (.int k _), .imm (.int k' y) => k = k' ∧ intC op y
  | .imm (.string x), .imm (.string y) => strC op x y
  | .imm (.bool _), .imm (.bool _) => eqlC op ∧ isBoolT P T
  | .imm (.pointer none), .imm (.pointer none) => eqlC op ∧ isPtrT P T
  | .ptr _, .imm (.pointer none) => eqlC op ∧ isPtrT P T
  | .ref _ _, .imm (.pointer none) => eqlC op ∧ isPtrT P T
  | .imm .nilIface, .imm .nilIface => eqlC op ∧ isIfcT P T ∧ cst = true
  | .ifc _ _, .imm .nilIface => eqlC op ∧ isIfcT P T
  | _, _ => False

theorem run_isRow {P : Program} {T : TypeId} (w : World) (h : (P.underlying T).isSome = true) : (isAgg T).run P w = .ok (isRowT P T) w := by
  obtain ⟨d, hd⟩ := Option.isSome_iff_exists.1 h
  unfold isAgg isRowT
  rw [Sem.run_bind, run_underlying hd w, hd]
  cases d <;> rfl
theorem guard_bool (op : BinOp) (T : TypeId) (x y : Operand) (a b : Bool) (P : Program) (w : World) : (eqGuard op T x y (.bool a) (.bool b)).run P w = .ok () w := by cases op <;> rfl
theorem guard_ptr (op : BinOp) (T : TypeId) (x y : Operand) (a b : Option Addr) (P : Program) (w : World) : (eqGuard op T x y (.pointer a) (.pointer b)).run P w = .ok () w := by cases op <;> rfl
theorem guard_ifc (op : BinOp) (T : TypeId) (x y : Operand) (t : TypeId) (a : Value) (P : Program) (w : World) : (eqGuard op T x y (.iface t a) .nilIface).run P w = .ok () w := by cases op <;> rfl
theorem guard_nil (op : BinOp) (T : TypeId) (x y : Operand) (h : (isConstO x || isConstO y) = true) (P : Program) (w : World) : (eqGuard op T x y .nilIface .nilIface).run P w = .ok () w := by
  cases x <;> cases y <;> first | (simp [isConstO] at h; done) | (cases op <;> simp [eqGuard])
theorem equal_bool {P : Program} {T : TypeId} (hT : isBoolT P T) (a b : Bool) (w : World) : (Op.equal T (.bool a) (.bool b)).run P w = .ok (a == b) w := by
  unfold isBoolT at hT
  split at hT
  · next h =>
    have e : Op.equal T (.bool a) (.bool b) = Op.equalIn (9999 + 1) T (.bool a) (.bool b) := rfl
    rw [e, Op.equalIn, Sem.run_bind, run_underlying h]
    rfl
  · exact hT.elim
theorem equal_ptr {P : Program} {T : TypeId} (hT : isPtrT P T) (a : Option Addr) (w : World) : (Op.equal T (.pointer a) (.pointer none)).run P w = .ok a.isNone w := by
  unfold isPtrT at hT
  split at hT
  · next h =>
    have e : Op.equal T (.pointer a) (.pointer none) = Op.equalIn (9999 + 1) T (.pointer a) (.pointer none) := rfl
    rw [e, Op.equalIn, Sem.run_bind, run_underlying h]
    cases a <;> rfl
  · exact hT.elim
theorem equal_ifc {P : Program} {T : TypeId} (hT : isIfcT P T) (w : World) : (Op.equal T .nilIface .nilIface).run P w = .ok true w ∧ ∀ t a, (Op.equal T (.iface t a) .nilIface).run P w = .ok false w := by
  unfold isIfcT at hT
  split at hT
  · next h =>
    refine ⟨?_, fun t a => ?_⟩
    · have e : Op.equal T .nilIface .nilIface = Op.equalIn (9999 + 1) T .nilIface .nilIface := rfl
      rw [e, Op.equalIn, Sem.run_bind, run_underlying h]
      rfl
    · have e : Op.equal T (.iface t a) .nilIface = Op.equalIn (9999 + 1) T (.iface t a) .nilIface := rfl
      rw [e, Op.equalIn, Sem.run_bind, run_underlying h]
      rfl
  · exact hT.elim
theorem kind_und {P : Program} {t : TypeId} (h : (kindP P t).isSome = true) : ∃ k, P.underlying t = some (.int k) := by
  unfold kindP at h
  split at h
  · next k e => exact ⟨k, e⟩
  · cases h
theorem str_und {P : Program} {t : TypeId} (h : strP P t = true) : P.underlying t = some .string := by
  unfold strP at h
  split at h
  · next e => exact e
  · cases h
theorem bool_und {P : Program} {t : TypeId} (h : boolP P t = true) : P.underlying t = some .bool := by
  unfold boolP at h
  split at h
  · next e => exact e
  · cases h
theorem run_eq1 {P : Program} {G : Gh} {w : World} {t : TypeId} {a b : AV} {u v : Value} (hc : eq1C P t a b) (hu : RS G u a) (hv : RS G v b) (d : Nat) : (Op.equalIn (d + 1) t u v).run P w = .ok (eqV a b) w ∧ isRowT P t = false ∧ (P.underlying t).isSome = true := by
  unfold eq1C at hc
  split at hc
  · obtain ⟨h1, rfl⟩ := hc
    obtain ⟨k, hk⟩ := kind_und h1
    cases hu; cases hv
    exact ⟨run_equalIn_int w d t _ k _ _ hk, by simp [isRowT, hk], by simp [hk]⟩
  · have hk := bool_und hc
    cases hu; cases hv
    exact ⟨run_equalIn_bool' w d t _ _ hk, by simp [isRowT, hk], by simp [hk]⟩
  · have hk := str_und hc
    cases hu; cases hv
    exact ⟨run_equalIn_string w d t _ _ hk, by simp [isRowT, hk], by simp [hk]⟩
  · exact hc.elim
theorem eq1_row {P : Program} {t : TypeId} {a b : AV} (hc : eq1C P t a b) : isRowT P t = false ∧ (P.underlying t).isSome = true := by
  unfold eq1C at hc
  split at hc
  · obtain ⟨k, hk⟩ := kind_und hc.1
    exact ⟨by simp [isRowT, hk], by simp [hk]⟩
  · have hk := bool_und hc
    exact ⟨by simp [isRowT, hk], by simp [hk]⟩
  · have hk := str_und hc
    exact ⟨by simp [isRowT, hk], by simp [hk]⟩
  · exact hc.elim
end Go.Proofs.YtldnkeackphilaaGreatDoor
