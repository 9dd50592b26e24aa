/- My own words: how data read in a world, and small closers. No program in sight. -/
import Derived.Below
import Derived.Deep.Draws
import Derived.Deep.AppendLies
import Derived.Maps.AppendAt
import Derived.OwnWalk
import Derived.Laws.BytesArg
import Derived.Laws.MakeOwn
import Derived.Laws.OwnMore
import Derived.Deep.OwnRows
import Derived.Tactics
import Derived.Lib.ConvBytes
import Derived.Lib.Hide
import Derived.Laws.Slices
import Derived.WalkKit
import Derived.WalkSmall
import Derived.WalkSpells
import Derived.WalkLawsBesides
import Derived.KernelRfl
import Derived.RowKit3
import Derived.Deep.LoopGhost
import Derived.Deep.QuietTactic
import Derived.BigQuiet
import Derived.WideLaws
import Derived.Deep.DeepCutAuto
import Derived.Deep.CutBlock
import Derived.Deep.DeepFit
import Derived.Deep.RegionHeld3
import Derived.Laws.Rows
import Derived.Lib.AppendStr
import Derived.ArgAppend
import Derived.Laws.IdiomCopy
import Derived.OrdersHeld
import Derived.Outline
set_option linter.unusedSimpArgs false
set_option linter.unusedVariables false
namespace Go.Proofs.YtldnkeackphilaaGreatDoor
open Go.RowKit

theorem ret_b {a b : Bool} (h : a = b) : Ending.returned (.bool a) = .returned (.bool b) := by rw [h]
theorem ret_i {k : IntKind} {a b : Int} (h : a = b) : Ending.returned (.int k a) = .returned (.int k b) := by rw [h]

structure R64 (x : Int) : Prop where
  lo : -9223372036854775808 ≤ x
  hi : x ≤ 9223372036854775807

def IntsV (w : World) (v : Value) (xs : List Int) : Prop :=
  ∃ A c, v = .slice A xs.length c ∧ xs.length ≤ 35184372088064 ∧ ∀ j x, xs[j]? = some x → R64 x ∧ ∃ b o, A = some ⟨b, o, none⟩ ∧ b < w.heap.size ∧ w.cell? ⟨b, o + j, none⟩ = some (.int .i64 x)
structure Part where
  kind : Int
  text : ByteArray
  num : Int
  kids : List Int
def PartR (w : World) (p : Part) (kv : Value) : Prop := R64 p.kind ∧ R64 p.num ∧ p.text.size ≤ 140737488351232 ∧ IntsV w kv p.kids
def PartsV (w : World) (v : Value) (ps : List Part) : Prop :=
  ∃ A c, v = .slice A ps.length c ∧ ps.length ≤ 4398046510976 ∧ ∀ j p, ps[j]? = some p → ∃ b o kv, A = some ⟨b, o, none⟩ ∧ b < w.heap.size ∧ PartR w p kv ∧
    w.cell? ⟨b, o + j * 4, none⟩ = some (.int .i64 p.kind) ∧ w.cell? ⟨b, o + j * 4 + 1, none⟩ = some (.string p.text) ∧ w.cell? ⟨b, o + j * 4 + 2, none⟩ = some (.int .i64 p.num) ∧ w.cell? ⟨b, o + j * 4 + 3, none⟩ = some kv

theorem cell_below {w w1 : World} (h : Below w.heap.size w w1) {a : Addr} {v : Value} (hc : w.cell? a = some v) : w1.cell? a = some v := (h.cell (World.block_lt_of_cell? w a hc)).trans hc
theorem IntsV.below {w w1 : World} {v : Value} {xs : List Int} (h : IntsV w v xs) (hb : Below w.heap.size w w1) : IntsV w1 v xs := by
  obtain ⟨A, c, rfl, hl, hx⟩ := h
  refine ⟨A, c, rfl, hl, fun j x hj => ?_⟩
  obtain ⟨hr, b, o, hA, hlt, hc⟩ := hx j x hj
  exact ⟨hr, b, o, hA, Nat.lt_of_lt_of_le hlt hb.size, cell_below hb hc⟩
theorem PartR.below {w w1 : World} {p : Part} {v : Value} (h : PartR w p v) (hb : Below w.heap.size w w1) : PartR w1 p v := ⟨h.1, h.2.1, h.2.2.1, h.2.2.2.below hb⟩
theorem PartsV.below {w w1 : World} {v : Value} {xs : List Part} (h : PartsV w v xs) (hb : Below w.heap.size w w1) : PartsV w1 v xs := by
  obtain ⟨A, c, rfl, hl, hx⟩ := h
  refine ⟨A, c, rfl, hl, fun j x hj => ?_⟩
  obtain ⟨b, o, kv, hA, hlt, hr, h0, h1, h2, h3⟩ := hx j x hj
  exact ⟨b, o, kv, hA, Nat.lt_of_lt_of_le hlt hb.size, hr.below hb, cell_below hb h0, cell_below hb h1, cell_below hb h2, cell_below hb h3⟩
theorem IntsV.get {w : World} {A : Option Addr} {n c : Nat} {xs : List Int} (h : IntsV w (.slice A n c) xs) (j : Nat) (x : Int) (hj : xs[j]? = some x) : R64 x ∧ ∃ b o, A = some ⟨b, o, none⟩ ∧ b < w.heap.size ∧ w.cell? ⟨b, o + j, none⟩ = some (.int .i64 x) := by
  obtain ⟨A', c', he, _, hx⟩ := h
  injection he with he
  subst he
  exact hx j x hj
theorem PartsV.get {w : World} {A : Option Addr} {n c : Nat} {xs : List Part} (h : PartsV w (.slice A n c) xs) {j : Nat} {p : Part} (hj : xs[j]? = some p) : ∃ b o kv, A = some ⟨b, o, none⟩ ∧ b < w.heap.size ∧ PartR w p kv ∧
    w.cell? ⟨b, o + j * 4, none⟩ = some (.int .i64 p.kind) ∧ w.cell? ⟨b, o + j * 4 + 1, none⟩ = some (.string p.text) ∧ w.cell? ⟨b, o + j * 4 + 2, none⟩ = some (.int .i64 p.num) ∧ w.cell? ⟨b, o + j * 4 + 3, none⟩ = some kv := by
  obtain ⟨A', c', he, _, hx⟩ := h
  injection he with he
  subst he
  exact hx j p hj
theorem below_box (w : World) (o : Obj) : Below w.heap.size w (w.alloc o) := (Below.refl _ _).alloc (Nat.le_refl _) o

def ints (xs : List Int) : List Value := xs.map (.int .i64)
def OwnF {α : Type} (f : α → Value) (E : TypeId) (w : World) (B : Nat) (v : Value) (xs : List α) : Prop := w.ownsRow B E 1 v xs.length (xs.map f)
abbrev OwnInts := OwnF (Value.int .i64) 3
abbrev OwnStrs := OwnF Value.string 9
theorem OwnF.shape {α : Type} {f : α → Value} {E : TypeId} {w : World} {B : Nat} {v : Value} {xs : List α} (h : OwnF f E w B v xs) : ∃ A c, v = .slice A xs.length c ∧ xs.length ≤ 9223372036854775807 ∧ xs.length ≤ c := by
  rcases h.2 with ⟨rfl, hn⟩ | ⟨g, cap, cur, rfl, _, _, h1, h2, _⟩
  · exact ⟨none, 0, by rw [hn], by omega, by omega⟩
  · simp only [maxLen] at h2
    exact ⟨_, cap, rfl, by omega, h1⟩
theorem OwnF.shape' {α : Type} {f : α → Value} {E : TypeId} {w : World} {B : Nat} {v : Value} {xs : List α} (h : OwnF f E w B v xs) : ∃ A n c, v = .slice A n c ∧ xs.length = n ∧ n ≤ 9223372036854775807 ∧ n ≤ c := by
  obtain ⟨A, c, h1, h2, h3⟩ := h.shape
  exact ⟨A, _, c, h1, rfl, h2, h3⟩
theorem OwnF.form' {α : Type} {f : α → Value} {E : TypeId} {w : World} {B : Nat} {A : Option Addr} {n c : Nat} {xs : List α} (h : OwnF f E w B (.slice A n c) xs) (hn : 0 < xs.length) :
    ∃ g, A = some ⟨g, 0, none⟩ ∧ B ≤ g ∧ g < w.heap.size ∧ ∀ j x, xs[j]? = some x → w.cell? ⟨g, j, none⟩ = some (f x) := by
  have hc := fun g => @World.ownsRow.cells _ _ _ _ _ _ _ h g
  have hlt := World.ownsRow.lt h
  rcases h.2 with ⟨h0, h1⟩ | ⟨g, cap, cur, h0, hb, _, h1, h2, _⟩
  · omega
  · injection h0 with h0 h3 h4
    subst h0
    refine ⟨g, rfl, hb, (hlt g rfl).2, fun j x hj => ?_⟩
    have := hc g rfl j (f x) (by simp [hj])
    unfold Addr.add at this
    split at this
    · next h => subst h; exact this
    · simpa using this
theorem OwnF.below {α : Type} {f : α → Value} {E : TypeId} {w w1 : World} {B : Nat} {v : Value} {xs : List α} (h : OwnF f E w B v xs) (hb : Below w.heap.size w w1) : OwnF f E w1 B v xs :=
  World.ownsRow.kept (row := none) h ⟨hb.os, hb.tape, hb.output, hb.size, fun i hi _ => hb.block i hi⟩ (by cases v.ownBlock <;> simp)
theorem OwnF.take' {α : Type} {f : α → Value} {E : TypeId} {w : World} {B n c : Nat} {A : Option Addr} {xs : List α} (h : OwnF f E w B (.slice A n c) xs) (k : Nat) (hk : k ≤ xs.length) : OwnF f E w B (.slice A k c) (xs.take k) := by
  have hl : (xs.take k).length = k := by simp; omega
  rcases h with ⟨h1, h2⟩
  rcases h2 with ⟨h0, h3⟩ | ⟨g', cap', cur, hv, hg, hh, hn, hcap, hsz, htake⟩
  · cases h0
    obtain rfl : k = 0 := by omega
    exact World.ownsRow_nil _ _ _ _
  · cases hv
    refine ⟨by simp, .inr ⟨g', c, cur, by rw [hl], hg, hh, by omega, hcap, hsz, ?_⟩⟩
    have h3 : (cur.toList.take (xs.length * 1)).take (k * 1) = (xs.map f).take (k * 1) := by rw [htake]
    rw [List.take_take, Nat.min_eq_left (by omega)] at h3
    rw [hl, h3]
    simp [List.map_take]
theorem OwnF.reads {E : TypeId} {w : World} {B : Nat} {v : Value} {xs : List Int} (h : OwnF (Value.int .i64) E w B v xs) (hl : xs.length ≤ 35184372088064) (hr : ∀ x ∈ xs, R64 x) : IntsV w v xs := by
  obtain ⟨A, c, rfl, _⟩ := h.shape
  refine ⟨A, c, rfl, hl, fun j x hj => ?_⟩
  have hj' : j < xs.length := (List.getElem?_eq_some_iff.1 hj).1
  obtain ⟨g, he, _, hlt, hc⟩ := h.form' (by omega)
  exact ⟨hr x (List.mem_of_getElem? hj), g, 0, he, hlt, by simpa using hc j x hj⟩

theorem cut_h {P : Program} (t e : TypeId) (ht : P.underlying t = some (.slice e)) (hi : (P.info? e).isSome = true) (A : Option Addr) (n c h : Nat) (hh : h ≤ n) (hn : n ≤ c) :
    ∀ W : World, (Instr.slice t (.slice A n c) none (some (.int .i64 (h : Int))) none).run P W = .ok (.slice A h c) W := by
  intro W
  obtain ⟨i, hi⟩ := Option.isSome_iff_exists.1 hi
  have hel : P.elem t = e := by simp [Program.elem, ht]
  have hu : P.underlying t = some (.slice (P.elem t)) := by rw [hel]; exact ht
  rw [run_slice_h W t A n c hu .i64 (h : Int) (Int.natCast_nonneg _) (by omega), hel]
  simp [sizeOf, typeInfo, hi, sliced, Result.andThen]
  cases A <;> simp [Addr.add]
section
variable {P : Program} {ops : Array Oper} {rest : List Oper} {o : Oper} {a : Act} {Q : Exit → Act → World → Prop}
theorem app1 {W : World} (base : Nat) (hgd : o.guard = none) (s x : Operand) (t e : TypeId) (z : Value) (size bytes : Nat)
    (ho : o.op = .call { callee := .builtin .append, args := #[s, x], argTypes := #[t, t] })
    (ht : P.underlying t = some (.slice e)) (hinfo : (P.info? e).map (fun i => (i.zero, i.size, i.bytes)) = some (some z, size, bytes)) (hz : z.cells.size = size) (hsz : 0 < size)
    (v : Value) (n : Nat) (xs : List Value) (cs : List Value) (hs : a.eval s = v) {nb : Nat} (hx : a.eval x = .slice (some ⟨nb, 0, none⟩) 1 1) (h1 : cs.all Value.oneCell' = true) (hcs : cs.length = size)
    (hc : nb = W.heap.size ∧ W.ownsRow base e size v n xs ∧ base ≤ W.heap.size ∧ n + 1 ≤ 9223372036854775807 ∧ (n + 1) * bytes ≤ 140737488355328)
    (h : ∀ v1 w1, w1.ownsRow base e size v1 (n + 1) (xs ++ cs) → W.grownBy w1 v.ownBlock → (v1.ownBlock = v.ownBlock ∨ ∃ b, v1.ownBlock = some b ∧ W.heap.size ≤ b) → wpList P ops Q rest (a.put o.dst v1) w1) :
    wpList P ops Q (o :: rest) a (W.alloc (.cells cs.toArray e)) := by
  obtain ⟨rfl, HO, hbase, h63, hl⟩ := hc
  obtain ⟨i0, hi, hzz⟩ := Option.map_eq_some_iff.1 hinfo
  simp only [Prod.mk.injEq] at hzz
  obtain ⟨hz0, hz1, hz2⟩ := hzz
  refine wpList_append_own_at (W.alloc (.cells cs.toArray e)) hgd s x t ho base e i0 z size bytes ht hi hz0 hz1 hz2 hz hsz v n xs hs (World.ownsRow.alloc HO _) ⟨W.heap.size, 0, none⟩ 1 1 cs hx (by omega)
    (World.news_of_block (cs := cs.toArray) (t := e) (fr := (0, 0)) (heap_alloc_new W _)) (List.all_eq_true.1 h1) (by simp only [maxLen]; omega) hl (by simp; omega) ?_
  intro v1 w1 hown hg _ hat
  refine h v1 w1 hown (World.grownBy.trans (World.grownBy_alloc W _ _) hg) ?_
  rcases hat with hat | hat
  · exact .inl hat
  · exact .inr ⟨_, hat, by simp⟩
end
theorem OwnF.made {α : Type} {f : α → Value} {E : TypeId} (z : α) (W : World) (B m : Nat) (hb : B ≤ W.heap.size) (hm : m ≤ 9223372036854775807) :
    OwnF f E (W.alloc (.cells (madeCells #[f z] m) E)) B (.slice (some ⟨W.heap.size, 0, none⟩) m m) (List.replicate m z) := by
  have h := World.ownsRow_lit (base := B) (e := E) (size := 1) W (madeCells #[f z] m) m hb (by simpa [maxLen] using hm) (by simp [size_madeCells])
  have hl : (madeCells #[f z] m).toList = (List.replicate m z).map f := by
    apply List.ext_getElem
    · simp [madeCells]
    · intro i h1 h2
      simp [madeCells, Nat.mod_one]
  unfold OwnF
  rw [List.length_replicate]
  rwa [hl] at h
theorem OwnF.store {α : Type} {f : α → Value} {E : TypeId} {W : World} {B g n c : Nat} {xs : List α} (h : OwnF f E W B (.slice (some ⟨g, 0, none⟩) n c) xs) (hn : xs.length = n) (i : Nat) (x : α) :
    OwnF f E (W.setCell ⟨g, i, none⟩ (f x)) B (.slice (some ⟨g, 0, none⟩) n c) (xs.set i x) ∧ W.grownBy (W.setCell ⟨g, i, none⟩ (f x)) (some g) := by
  subst hn
  have hs := World.ownsRow.stored h i (f x)
  have he : (xs.map f).set i (f x) = (xs.set i x).map f := by simp [List.map_set]
  rw [he] at hs
  unfold OwnF
  rw [List.length_set]
  exact hs
theorem OwnF.free {α : Type} {f : α → Value} {E : TypeId} {W : World} {B g n c : Nat} {xs : List α} (h : OwnF f E W B (.slice (some ⟨g, 0, none⟩) n c) xs) (i : Nat) : W.frozen? ⟨g, i, none⟩ = false := by
  rcases h.2 with ⟨h', _⟩ | ⟨g', cap', cur, h', _, hh, _⟩
  · cases h'
  · have : g = g' := by injection h' with h'; injection h' with h'; injection h' with h'
    subst this
    simp [World.frozen?, hh]
theorem OwnF.drewN {α : Type} {f : α → Value} {E : TypeId} {W : World} {B : Nat} {v : Value} {xs : List α} (h : OwnF f E W B v xs) (n : Nat) : OwnF f E (W.drewN n) B v xs := h
theorem cell_set_ne {w : World} {a b : Addr} {u v : Value} (h : a.block ≠ b.block) (hc : w.cell? a = some v) : (w.setCell b u).cell? a = some v := by
  rw [World.cell?_of_block (w := w) (Below.heap_setCell w b u a.block h)]
  exact hc
def StrsV (w : World) (v : Value) (xs : List ByteArray) : Prop :=
  ∃ A c, v = .slice A xs.length c ∧ xs.length ≤ 8796093022016 ∧ ∀ j x, xs[j]? = some x → ∃ b o, A = some ⟨b, o, none⟩ ∧ b < w.heap.size ∧ w.cell? ⟨b, o + j, none⟩ = some (.string x)
theorem StrsV.below {w w1 : World} {v : Value} {xs : List ByteArray} (h : StrsV w v xs) (hb : Below w.heap.size w w1) : StrsV w1 v xs := by
  obtain ⟨A, c, rfl, hl, hx⟩ := h
  refine ⟨A, c, rfl, hl, fun j x hj => ?_⟩
  obtain ⟨b, o, hA, hlt, hc⟩ := hx j x hj
  exact ⟨b, o, hA, Nat.lt_of_lt_of_le hlt hb.size, cell_below hb hc⟩
theorem StrsV.get {w : World} {A : Option Addr} {n c : Nat} {xs : List ByteArray} (h : StrsV w (.slice A n c) xs) (j : Nat) (x : ByteArray) (hj : xs[j]? = some x) : ∃ b o, A = some ⟨b, o, none⟩ ∧ b < w.heap.size ∧ w.cell? ⟨b, o + j, none⟩ = some (.string x) := by
  obtain ⟨A', c', he, _, hx⟩ := h
  injection he with he
  subst he
  exact hx j x hj
theorem below_al {w W : World} (h : Below w.heap.size w W) (o : Obj) : Below w.heap.size w (W.alloc o) := h.alloc h.size o
theorem quiet_q {P : Program} {f : FuncId} {args : Array Value} {w : World} {q n : Nat} {v : Value}
    (h : Calls P f args (w.drewN (q + n)) fun e w' => e = .returned v ∧ w' = w.drewN (q + n)) : Calls P f args (w.drewN (q + n)) fun e w'' => e = .returned v ∧ ∃ m, w'' = w.drewN (q + m) :=
  h.mono fun _ _ ⟨he, hm⟩ => ⟨he, n, hm⟩
theorem grown_below {B : Nat} {w W w1 : World} {v : Value} (h : Below B w W) (hB : B ≤ W.heap.size) (hg : W.grownBy w1 v.ownBlock) (hv : ∀ k, v.ownBlock = some k → B ≤ k) : Below B w w1 := h.grown hg hB hv
theorem below_then {B : Nat} {w w1 w2 : World} (h : Below B w w1) (hB : B ≤ w1.heap.size) (k : Below w1.heap.size w1 w2) : Below B w w2 := h.trans (k.mono hB)
theorem bcell {W w1 : World} (hb : Below W.heap.size W w1) : (∀ b o, b < W.heap.size → w1.cell? ⟨b, o, none⟩ = W.cell? ⟨b, o, none⟩) ∧ (∀ b o, b < W.heap.size → w1.frozen? ⟨b, o, none⟩ = W.frozen? ⟨b, o, none⟩) :=
  ⟨fun b o h => hb.cell (p := ⟨b, o, none⟩) h, fun b o h => hb.frozen (p := ⟨b, o, none⟩) h⟩
end Go.Proofs.YtldnkeackphilaaGreatDoor
/- More words on worlds. -/
namespace Go.Proofs.YtldnkeackphilaaGreatDoor
open Go.RowKit

theorem cell_al {W : World} {o : Obj} {a : Addr} {v : Value} (h : W.cell? a = some v) : (W.alloc o).cell? a = some v := (World.cell?_alloc_lt W o a (World.block_lt_of_cell? W a h)).trans h
theorem cell_dr {W : World} {a : Addr} {v : Value} (h : W.cell? a = some v) : W.drew.cell? a = some v := h
theorem below_dr {w W : World} (h : Below w.heap.size w W) : Below w.heap.size w W.drew := ⟨h.os, h.tape, h.output, h.size, h.block⟩
theorem heap_at {W : World} {o : Obj} {n : Nat} (h : n = W.heap.size) : (W.alloc o).heap[n]? = some o := h ▸ heap_alloc_new W o

theorem grown_set {w W : World} {g : Nat} (h : w.grownBy W (some g)) {p : Addr} (hp : p.block = g ∨ w.heap.size ≤ p.block) (u : Value) : w.grownBy (W.setCell p u) (some g) :=
  ⟨h.os, h.tape, h.output, by simpa [World.setCell] using h.size, fun i hi hne => (Below.heap_setCell W p u i (by
    rintro rfl
    rcases hp with hp | hp
    · exact hne (by rw [hp])
    · omega)).trans (h.block i hi hne)⟩
theorem grown_dr {w W : World} {g : Option Nat} (h : w.grownBy W g) (n : Nat) : w.grownBy (W.drewN n) g := ⟨h.os, h.tape, h.output, h.size, h.block⟩

theorem OwnF.kept {α : Type} {f : α → Value} {E : TypeId} {w w1 : World} {B : Nat} {v : Value} {xs : List α} (h : OwnF f E w B v xs) {row : Option Nat} (hg : w.grownBy w1 row) (hne : v.ownBlock = none ∨ v.ownBlock ≠ row) : OwnF f E w1 B v xs := World.ownsRow.kept h hg hne
theorem OwnF.far {α : Type} {f : α → Value} {E : TypeId} {w : World} {B g n c : Nat} {xs : List α} (h : OwnF f E w B (.slice (some ⟨g, 0, none⟩) n c) xs) {p : Addr} (hp : g ≠ p.block) (u : Value) : OwnF f E (w.setCell p u) B (.slice (some ⟨g, 0, none⟩) n c) xs :=
  h.kept (row := some p.block) (grown_set (World.grownBy.refl w _) (.inl rfl) u) (.inr (by simp [Value.ownBlock, hp]))
theorem blk_set {W : World} {g : Nat} {cs : Array Value} {t : TypeId} (h : W.heap[g]? = some (.cells cs t (0, 0))) (i : Nat) (u : Value) : (W.setCell ⟨g, i, none⟩ u).heap[g]? = some (.cells (cs.setIfInBounds i u) t (0, 0)) := by
  simp [World.setCell, Array.getElem?_modify, h]
theorem blk_far {W : World} {g : Nat} {o : Obj} (h : W.heap[g]? = some o) {p : Addr} (hp : g ≠ p.block) (u : Value) : (W.setCell p u).heap[g]? = some o := (Below.heap_setCell W p u g hp).trans h
theorem heap_al {W : World} {o o' : Obj} {b : Nat} (h : W.heap[b]? = some o) : (W.alloc o').heap[b]? = some o := (Below.heap_alloc W o' b (Array.getElem?_eq_some_iff.1 h).1).trans h

theorem grown_own {w W w1 : World} {r row : Option Nat} (h : w.grownBy W r) (hg : W.grownBy w1 row) (hrow : ∀ k, row = some k → w.heap.size ≤ k) : w.grownBy w1 r :=
  ⟨hg.os.trans h.os, hg.tape.trans h.tape, hg.output.trans h.output, Nat.le_trans h.size hg.size, fun i hi hne => (hg.block i (Nat.lt_of_lt_of_le hi h.size) (fun e => by have := hrow i e.symm; omega)).trans (h.block i hi hne)⟩
theorem frozen_al {W : World} {o : Obj} {a : Addr} (h : a.block < W.heap.size) (hf : W.frozen? a = false) : (W.alloc o).frozen? a = false := by
  rw [World.frozen?_alloc_old _ _ a (Nat.ne_of_lt h)]; exact hf
theorem frozen_dr {W : World} {a : Addr} (hf : W.frozen? a = false) : W.drew.frozen? a = false := hf
theorem own_cells {w : World} {B : Nat} {E : TypeId} {size : Nat} {v : Value} {n : Nat} {xs : List Value} (h : w.ownsRow B E size v n xs) (hn : 0 < n) :
    ∃ g c, v = .slice (some ⟨g, 0, none⟩) n c ∧ B ≤ g ∧ g < w.heap.size ∧ ∀ j u, xs[j]? = some u → w.cell? ⟨g, j, none⟩ = some u := by
  have hc := fun g => @World.ownsRow.cells _ _ _ _ _ _ _ h g
  have hlt := World.ownsRow.lt h
  rcases h.2 with ⟨h0, h1⟩ | ⟨g, cap, cur, h0, hb, _, h1, h2, _⟩
  · omega
  · subst h0
    refine ⟨g, cap, rfl, hb, (hlt g rfl).2, fun j u hj => ?_⟩
    have := hc g rfl j u hj
    unfold Addr.add at this
    split at this
    · next h => subst h; exact this
    · simpa using this
theorem own_none {w : World} {B : Nat} {E : TypeId} {size : Nat} {v : Value} {n : Nat} {xs : List Value} (h : w.ownsRow B E size v n xs) : ∃ A c, v = .slice A n c ∧ n ≤ 9223372036854775807 ∧ n ≤ c := by
  rcases h.2 with ⟨rfl, hn⟩ | ⟨g, cap, cur, rfl, _, _, h1, h2, _⟩
  · exact ⟨none, 0, by rw [hn], by omega, by omega⟩
  · simp only [maxLen] at h2
    exact ⟨_, cap, rfl, by omega, h1⟩
theorem own_below {w w1 : World} {B : Nat} {E : TypeId} {size : Nat} {v : Value} {n : Nat} {xs : List Value} (h : w.ownsRow B E size v n xs) (hb : Below w.heap.size w w1) : w1.ownsRow B E size v n xs :=
  World.ownsRow.kept (row := none) h ⟨hb.os, hb.tape, hb.output, hb.size, fun i hi _ => hb.block i hi⟩ (by cases v.ownBlock <;> simp)
theorem IntsV.blk {w w' : World} {g n c : Nat} {xs : List Int} (h : IntsV w (.slice (some ⟨g, 0, none⟩) n c) xs) (hb : w'.heap[g]? = w.heap[g]?) (hs : w.heap.size ≤ w'.heap.size) : IntsV w' (.slice (some ⟨g, 0, none⟩) n c) xs := by
  obtain ⟨A, c', he, hl, hx⟩ := h
  refine ⟨A, c', he, hl, fun j x hj => ?_⟩
  obtain ⟨hr, b, o, hA, hlt, hc⟩ := hx j x hj
  injection he with he
  subst he
  obtain ⟨rfl, rfl⟩ : g = b ∧ 0 = o := by simpa using hA
  exact ⟨hr, g, 0, rfl, Nat.lt_of_lt_of_le hlt hs, (World.cell?_of_block hb).trans hc⟩
end Go.Proofs.YtldnkeackphilaaGreatDoor
/- A calculus of values: what Go code does, told without memory. Its values, and how they read in a world. -/
namespace Go.Proofs.YtldnkeackphilaaGreatDoor
open Go.RowKit

inductive AV where
  | imm (v : Value)
  | sl (es : List (List AV))
  | ptr (cs : List AV)
  | box (T : TypeId) (cs : List AV)
  | agg (cs : List AV)
  | tup (as : List AV)
  | ifc (t : TypeId) (a : AV)
  | ref (r off : Nat)
  | cnd (y : Bool) (a : AV)
  | dead
  | nl
  | elt (n i j : Nat)
  | rw (n lo len : Nat)
  | fnc (f : Nat) (cs : List AV)
instance : Inhabited AV := ⟨.dead⟩
abbrev Gh := Nat → Nat → AV → Prop
structure Gle (G H : Gh) : Prop where
  get : ∀ g i a, G g i a → H g i a
theorem Gle.refl (G : Gh) : Gle G G := ⟨fun _ _ _ h => h⟩
theorem Gle.trans {G H K : Gh} (h : Gle G H) (k : Gle H K) : Gle G K := ⟨fun g i a e => k.get g i a (h.get g i a e)⟩
inductive RS (G : Gh) : Value → AV → Prop
  | imm (v : Value) (h : v.oneCell' = true) : RS G v (.imm v)
  | nil {A : Option Addr} : RS G (.slice A 0 0) (.sl [])
  | sl (g o sz c : Nat) (es : List (List AV)) (hsz : ∀ e ∈ es, e.length = sz) (hc : es.length ≤ c) (hcell : ∀ (i : Nat) (e : List AV) (j : Nat) (a : AV), es[i]? = some e → e[j]? = some a → G g (o + i * sz + j) a) :
      RS G (.slice (some ⟨g, o, none⟩) es.length c) (.sl es)
  | ptr (g o : Nat) (cs : List AV) (hcell : ∀ (j : Nat) (a : AV), cs[j]? = some a → G g (o + j) a) : RS G (.pointer (some ⟨g, o, none⟩)) (.ptr cs)
  | agg (vs : Array Value) (cs : List AV) (hl : vs.size = cs.length) (h1 : ∀ (j : Nat) (v : Value), vs[j]? = some v → v.oneCell' = true) (h : ∀ (j : Nat) (v : Value) (a : AV), vs[j]? = some v → cs[j]? = some a → RS G v a) : RS G (.agg vs) (.agg cs)
  | tup (vs : Array Value) (cs : List AV) (hl : vs.size = cs.length) (h : ∀ (j : Nat) (v : Value) (a : AV), vs[j]? = some v → cs[j]? = some a → RS G v a) : RS G (.tuple vs) (.tup cs)
  | ifc (t : TypeId) (v : Value) (a : AV) (h : RS G v a) : RS G (.iface t v) (.ifc t a)
theorem RS.mono {G H : Gh} (hg : Gle G H) {v : Value} {a : AV} (h : RS G v a) : RS H v a := by
  induction h with
  | imm v h => exact .imm v h
  | nil => exact .nil
  | sl g o sz c es hsz hc hcell => exact .sl g o sz c es hsz hc fun i e j a h1 h2 => hg.get _ _ _ (hcell i e j a h1 h2)
  | ptr g o cs hcell => exact .ptr g o cs fun j a h => hg.get _ _ _ (hcell j a h)
  | agg vs cs hl h1 _ ih => exact .agg vs cs hl h1 ih
  | tup vs cs hl _ ih => exact .tup vs cs hl ih
  | ifc t v a _ ih => exact .ifc t v a ih
def AV.cells : AV → List AV
  | .agg cs => cs
  | a => [a]
def AV.whole : AV → Bool
  | .tup _ => false
  | _ => true
theorem RS.cells {G : Gh} {v : Value} {a : AV} (h : RS G v a) (hw : a.whole = true) : v.cells.size = a.cells.length ∧ ∀ (j : Nat) u b, v.cells[j]? = some u → a.cells[j]? = some b → RS G u b ∧ u.oneCell' = true := by
  have one : ∀ {v : Value} {a : AV}, RS G v a → v.oneCell' = true → v.cells = #[v] → a.cells = [a] → v.cells.size = a.cells.length ∧ ∀ (j : Nat) u b, v.cells[j]? = some u → a.cells[j]? = some b → RS G u b ∧ u.oneCell' = true := by
    intro v a h h1 hv ha
    rw [hv, ha]
    refine ⟨rfl, fun j u b hu hb => ?_⟩
    cases j with
    | zero => simp at hu hb; subst hu hb; exact ⟨h, h1⟩
    | succ j => simp at hb
  cases h with
  | imm v h => exact one (.imm v h) h (by cases v <;> first | rfl | cases h) rfl
  | nil => exact one .nil rfl rfl rfl
  | sl g o sz c es hsz hc hcell => exact one (.sl g o sz c es hsz hc hcell) rfl rfl rfl
  | ptr g o cs hcell => exact one (.ptr g o cs hcell) rfl rfl rfl
  | agg vs cs hl h1 h => exact ⟨hl, fun j u b hu hb => ⟨h j u b hu hb, h1 j u hu⟩⟩
  | tup => cases hw
  | ifc t v a h => exact one (.ifc t v a h) rfl rfl rfl
def AV.comp : AV → Bool
  | .agg _ => true
  | .tup _ => true
  | .box _ _ => true
  | _ => false
def AV.plain : AV → Bool
  | .box _ _ => false
  | .cnd _ _ => false
  | .dead => false
  | _ => true
def constCell : Value → AV
  | .slice none 0 0 => .sl []
  | v => .imm v
def constAV : Value → AV
  | .agg vs => .agg (vs.toList.map constCell)
  | .tuple vs => if vs.size = 0 then .tup [] else .dead
  | v => constCell v

structure St where
  val : Nat → AV
  tok : Nat → Nat → Option (Option TypeId)
abbrev Om := Nat → Option (Nat × Nat)
def szP (P : Program) (t : TypeId) : Nat := ((P.info? t).map (·.size)).getD 0
def pv (w : World) (tm : Array Value) (t : Nat) : Nat → Value
  | 0 => tm.getD t undef
  | k + 1 => match tm.getD t undef with
    | .agg vs => vs.getD k undef
    | .tuple vs => (vs.toList.flatMap fun v => v.cells.toList).getD k undef
    | .pointer (some a) => (w.cell? ⟨a.block, a.off + k, none⟩).getD undef
    | _ => undef
structure Gl (G : Gh) : Prop where
  ml : ∃ m : Int, G 1 0 (.imm (.int .i64 m))
  et : G 0 0 (.imm (.iface 240 (.agg #[.pointer (some ⟨4, 44, none⟩)])))
theorem Gl.mono {G H : Gh} (h : Gl G) (hg : Gle G H) : Gl H := ⟨h.ml.imp fun _ h => hg.get _ _ _ h, hg.get _ _ _ h.et⟩
structure CellsR (G : Gh) (w : World) : Prop where
  get : ∀ g i a, G g i a → ∃ v, w.cell? ⟨g, i, none⟩ = some v ∧ v.oneCell' = true ∧ RS G v a
  gl : Gl G
instance (G : Gh) (w : World) : CoeFun (CellsR G w) fun _ => ∀ g i a, G g i a → ∃ v, w.cell? ⟨g, i, none⟩ = some v ∧ v.oneCell' = true ∧ RS G v a := ⟨CellsR.get⟩
def TokR (P : Program) (G : Gh) (O : Om) (w : World) (v : Value) (p : Nat × Nat) : Option TypeId → Prop
  | none => v = .slice none 0 0
  | some E => ∃ n xs, w.ownsRow 0 E (szP P E) v n xs ∧ ∀ g, v.ownBlock = some g → O g = some p ∧ ∀ i a, n * szP P E ≤ i → ¬ G g i a
inductive RV (G : Gh) (O : Om) (w : World) (tm : Array Value) (vl : Nat → AV) (t : Nat) : Value → AV → Prop
  | sh {v : Value} {a : AV} (h : RS G v a) : RV G O w tm vl t v a
  | box (g : Nat) (T : TypeId) (cs : List AV) (vs : Array Value) (ho : O g = some (t, 0)) (hg : ∀ i a, ¬ G g i a) (hh : w.heap[g]? = some (.cells vs T (0, 0))) (hl : vs.size = cs.length)
      (hc : ∀ (j : Nat) (v : Value) (a : AV), vs[j]? = some v → cs[j]? = some a → v.oneCell' = true ∧ RS G v a) : RV G O w tm vl t (.pointer (some ⟨g, 0, none⟩)) (.box T cs)
  | ref (r off g : Nat) (hr : tm.getD r undef = .pointer (some ⟨g, 0, none⟩)) (hb : ∃ T cs, vl r = .box T cs) : RV G O w tm vl t (.pointer (some ⟨g, off, none⟩)) (.ref r off)
  | cnd (y : Bool) (v : Value) (a : AV) (h1 : y = true → RV G O w tm vl t v a) (h2 : y = false → v = undef) (h3 : a.plain = true) : RV G O w tm vl t v (.cnd y a)
  | dead (v : Value) : RV G O w tm vl t v .dead
structure Rel (P : Program) (N : Nat) (G : Gh) (O : Om) (w : World) (tm : Array Value) (st : St) : Prop where
  size : tm.size = N
  cells : CellsR G w
  owned : ∀ g p, O g = some p → g < w.heap.size
  vals : ∀ t, RV G O w tm st.val t (tm.getD t undef) (st.val t)
  toks : ∀ t k E, st.tok t k = some E → TokR P G O w (pv w tm t k) (t, k) E
structure Fr (G : Gh) (O : Om) (w : World) (G' : Gh) (O' : Om) (w' : World) : Prop where
  os : w'.os = w.os
  tape : w'.tape = w.tape
  output : w'.output = w.output
  size : w.heap.size ≤ w'.heap.size
  le : Gle G G'
  old : ∀ g, g < w.heap.size → O g = none → w'.heap[g]? = w.heap[g]? ∧ G' g = G g ∧ O' g = none
theorem Fr.refl (G : Gh) (O : Om) (w : World) : Fr G O w G O w := ⟨rfl, rfl, rfl, Nat.le_refl _, .refl _, fun _ _ h => ⟨rfl, rfl, h⟩⟩
theorem Fr.trans {G G1 G2 : Gh} {O O1 O2 : Om} {w w1 w2 : World} (h : Fr G O w G1 O1 w1) (k : Fr G1 O1 w1 G2 O2 w2) : Fr G O w G2 O2 w2 :=
  ⟨k.os.trans h.os, k.tape.trans h.tape, k.output.trans h.output, Nat.le_trans h.size k.size, h.le.trans k.le, fun g hg ho => by
    obtain ⟨h1, h2, h3⟩ := h.old g hg ho
    obtain ⟨k1, k2, k3⟩ := k.old g (Nat.lt_of_lt_of_le hg h.size) h3
    exact ⟨k1.trans h1, k2.trans h2, k3⟩⟩
end Go.Proofs.YtldnkeackphilaaGreatDoor
/- The calculus of values: how a state goes on when a slot is written. -/
namespace Go.Proofs.YtldnkeackphilaaGreatDoor
open Go.RowKit

def AV.killR (d : Nat) : AV → AV
  | .ref r off => if r = d then .dead else .ref r off
  | .cnd y (.ref r off) => if r = d then .dead else .cnd y (.ref r off)
  | a => a
def noSrc : Nat → Nat → Bool := fun _ _ => false
def noTok : Nat → Option (Option TypeId) := fun _ => none
def St.put (st : St) (src : Nat → Nat → Bool) (d : Nat) (a : AV) (tk : Nat → Option (Option TypeId)) : St :=
  ⟨fun u => if u = d then a else (st.val u).killR d, fun t k => if t = d then tk k else if src t k then none else st.tok t k⟩
theorem St.put_val_eq (st : St) (src) (d : Nat) (a : AV) (tk) : (st.put src d a tk).val d = a := by simp [St.put]
theorem St.put_val_ne (st : St) (src) {d u : Nat} (a : AV) (tk) (h : u ≠ d) : (st.put src d a tk).val u = (st.val u).killR d := by simp [St.put, h]
structure Rl (P : Program) (N : Nat) (G : Gh) (O : Om) (w : World) (tm : Array Value) (st : St) : Prop extends Rel P N G O w tm st where
  comp : ∀ t k E, st.tok t (k + 1) = some E → (st.val t).comp = true
theorem getD_set_eq' {tm : Array Value} {d : Nat} (h : d < tm.size) (v : Value) : (tm.setIfInBounds d v).getD d undef = v := by simp [h]
theorem getD_set_ne' {tm : Array Value} {d t : Nat} (h : t ≠ d) (v : Value) : (tm.setIfInBounds d v).getD t undef = tm.getD t undef := by
  simp [Array.getElem?_setIfInBounds_ne (Ne.symm h)]
theorem TokR.keep {P : Program} {G G' : Gh} {O O' : Om} {w w' : World} {v : Value} {p : Nat × Nat} {E : Option TypeId} (h : TokR P G O w v p E) (hk : ∀ g, O g = some p → w'.heap[g]? = w.heap[g]? ∧ G' g = G g ∧ O' g = some p) : TokR P G' O' w' v p E := by
  cases E with
  | none => exact h
  | some E =>
    obtain ⟨n, xs, hr, hg⟩ := h
    refine ⟨n, xs, ⟨hr.1, ?_⟩, fun g hv => ?_⟩
    · rcases hr.2 with h0 | ⟨g, cap, cur, rfl, hb, hh, r⟩
      · exact .inl h0
      · exact .inr ⟨g, cap, cur, rfl, hb, by rw [(hk g (hg g rfl).1).1]; exact hh, r⟩
    · obtain ⟨h1, h2⟩ := hg g hv
      obtain ⟨_, k2, k3⟩ := hk g h1
      exact ⟨k3, fun i hi => by rw [k2]; exact h2 i hi⟩
theorem killR_comp {d : Nat} {a : AV} (h : a.comp = true) : (a.killR d).comp = true := by
  cases a <;> first | exact h | cases h
theorem killR_cnd {d : Nat} {y : Bool} {a : AV} (h : a.plain = true) : (AV.cnd y a).killR d = .dead ∨ (a.killR d = a ∧ (AV.cnd y a).killR d = .cnd y a) := by
  cases a with
  | ref r off =>
    simp only [AV.killR]
    by_cases e : r = d
    · rw [if_pos e]; exact .inl rfl
    · rw [if_neg e, if_neg e]; exact .inr ⟨rfl, rfl⟩
  | box => cases h
  | cnd => cases h
  | dead => cases h
  | _ => exact .inr ⟨rfl, rfl⟩
theorem rs_kill {G : Gh} {v : Value} {a : AV} (h : RS G v a) (d : Nat) : a.killR d = a := by cases h <;> rfl
theorem RV.kill {G G' : Gh} {O O' : Om} {w w' : World} {tm tm' : Array Value} {vl vl' : Nat → AV} {t d : Nat} {v : Value} {a : AV} (h : RV G O w tm vl t v a) (hle : Gle G G')
    (hk : ∀ T cs, a = .box T cs → ∀ g, O g = some (t, 0) → w'.heap[g]? = w.heap[g]? ∧ G' g = G g ∧ O' g = some (t, 0))
    (hr : ∀ r, r ≠ d → tm'.getD r undef = tm.getD r undef ∧ (∀ T cs, vl r = .box T cs → ∃ T cs, vl' r = .box T cs)) : RV G' O' w' tm' vl' t v (a.killR d) := by
  induction h with
  | sh h =>
    rw [rs_kill h]
    exact .sh (h.mono hle)
  | cnd y v a _ h2 h3 ih =>
    rcases killR_cnd (d := d) (y := y) h3 with e | ⟨e1, e⟩
    · rw [e]; exact .dead _
    · rw [e]
      rw [e1] at ih
      exact .cnd y v a (fun hy => ih hy (fun T cs e => by subst e; cases h3)) h2 h3
  | box g T cs vs ho hg hh hl hc =>
    obtain ⟨k1, k2, k3⟩ := hk T cs rfl g ho
    exact .box g T cs vs k3 (fun i => by rw [k2]; exact hg i) (k1.trans hh) hl fun j v a h1 h2 => ⟨(hc j v a h1 h2).1, (hc j v a h1 h2).2.mono hle⟩
  | ref r off g hr' hb =>
    simp only [AV.killR]
    by_cases e : r = d
    · rw [if_pos e]; exact .dead _
    · rw [if_neg e]
      obtain ⟨h1, h2⟩ := hr r e
      obtain ⟨T, cs, hb⟩ := hb
      exact .ref r off g (h1.trans hr') (h2 T cs hb)
  | dead v => exact .dead v
def AV.shared : AV → Bool
  | .box _ _ => false
  | .ref _ _ => false
  | .cnd _ _ => false
  | .dead => false
  | _ => true
theorem RV.rs {G : Gh} {O : Om} {w : World} {tm : Array Value} {vl : Nat → AV} {t : Nat} {v : Value} {a : AV} (h : RV G O w tm vl t v a) (ha : a.shared = true) : RS G v a := by
  cases h with
  | sh h => exact h
  | box => cases ha
  | ref => cases ha
  | cnd => cases ha
  | dead => cases ha
theorem Rl.upd {P : Program} {N : Nat} {G G' : Gh} {O O' : Om} {w w' : World} {tm : Array Value} {st : St} (h : Rl P N G O w tm st) {d : Nat} (hd : d < N) {v : Value} {a : AV} {tk : Nat → Option (Option TypeId)} {src : Nat → Nat → Bool}
    (hcells : ∀ g i a, G' g i a → ∃ v, w'.cell? ⟨g, i, none⟩ = some v ∧ v.oneCell' = true ∧ RS G' v a) (hle : Gle G G') (howned : ∀ g p, O' g = some p → g < w'.heap.size)
    (hkeep : ∀ g p, O g = some p → p.1 ≠ d → src p.1 p.2 = false → w'.heap[g]? = w.heap[g]? ∧ G' g = G g ∧ O' g = some p)
    (hsrc : ∀ t T cs, t ≠ d → st.val t = .box T cs → src t 0 = false)
    (hv : RV G' O' w' (tm.setIfInBounds d v) (st.put src d a tk).val d v a)
    (htk : ∀ k E, tk k = some E → TokR P G' O' w' (pv w' (tm.setIfInBounds d v) d k) (d, k) E) (hcomp : ∀ k E, tk (k + 1) = some E → a.comp = true) :
    Rl P N G' O' w' (tm.setIfInBounds d v) (st.put src d a tk) := by
  have hds : d < tm.size := by rw [h.size]; exact hd
  refine ⟨⟨by simp [h.size], ⟨hcells, h.cells.gl.mono hle⟩, howned, fun t => ?_, fun t k E hE => ?_⟩, fun t k E hE => ?_⟩
  · by_cases e : t = d
    · subst e
      rw [getD_set_eq' hds, St.put_val_eq]
      exact hv
    · rw [getD_set_ne' e, St.put_val_ne _ _ _ _ e]
      refine (h.vals t).kill hle (fun T cs hb g ho => hkeep g (t, 0) ho e (hsrc t T cs e hb)) (fun r hr => ?_)
      exact ⟨getD_set_ne' hr _, fun T cs hb => ⟨T, cs, by rw [St.put_val_ne _ _ _ _ hr, hb]; rfl⟩⟩
  · by_cases e : t = d
    · subst e
      exact htk k E (by simpa [St.put] using hE)
    · simp only [St.put, e, if_false] at hE
      split at hE
      · cases hE
      · next hs =>
        have hs : src t k = false := by simpa using hs
        have ht := h.toks t k E hE
        have hpv : pv w' (tm.setIfInBounds d v) t k = pv w tm t k := by
          cases k with
          | zero => exact getD_set_ne' e _
          | succ k =>
            simp only [pv]
            rw [getD_set_ne' e]
            have hc := h.comp t k E hE
            have hval := h.vals t
            generalize tm.getD t undef = x at *
            generalize hA : st.val t = A at hc hval
            cases hval with
            | sh hs' => cases hs' <;> first | rfl | cases hc
            | box g T cs vs ho hg hh hl hcc =>
              have hk := (hkeep g (t, 0) ho e (hsrc t T cs e hA)).1
              simp only [World.cell?, hk]
            | ref => cases hc
            | cnd => cases hc
            | dead => cases hc
        rw [hpv]
        exact ht.keep fun g ho => hkeep g (t, k) ho e hs
  · by_cases e : t = d
    · subst e
      rw [St.put_val_eq]
      exact hcomp k E (by simpa [St.put] using hE)
    · simp only [St.put, e, if_false] at hE
      split at hE
      · cases hE
      · rw [St.put_val_ne _ _ _ _ e]
        exact killR_comp (h.comp t k E hE)
theorem Rl.pure {P : Program} {N : Nat} {G : Gh} {O : Om} {w : World} {tm : Array Value} {st : St} (h : Rl P N G O w tm st) {d : Nat} (hd : d < N) {v : Value} {a : AV}
    (hv : RV G O w (tm.setIfInBounds d v) (st.put noSrc d a noTok).val d v a) : Rl P N G O w (tm.setIfInBounds d v) (st.put noSrc d a noTok) :=
  h.upd hd h.cells (.refl _) h.owned (fun g p ho _ _ => ⟨rfl, rfl, ho⟩) (fun _ _ _ _ _ => rfl) hv (fun k E hE => by cases hE) (fun k E hE => by cases hE)
theorem Rl.drew {P : Program} {N : Nat} {G : Gh} {O : Om} {w : World} {tm : Array Value} {st : St} (h : Rl P N G O w tm st) : Rl P N G O { w with drawn := w.drawn + 1 } tm st := by
  refine ⟨⟨h.size, ⟨h.cells.get, h.cells.gl⟩, h.owned, fun t => ?_, fun t k E hE => ?_⟩, h.comp⟩
  · have hv := h.vals t
    generalize tm.getD t undef = x at hv ⊢
    generalize st.val t = A at hv ⊢
    induction hv with
    | sh h => exact .sh h
    | box g T cs vs ho hg hh hl hc => exact .box g T cs vs ho hg hh hl hc
    | ref r off g hr hb => exact .ref r off g hr hb
    | cnd y v a _ h2 h3 ih => exact .cnd y v a (fun hy => ih hy) h2 h3
    | dead => exact .dead _
  · have ht := h.toks t k E hE
    have hpv : pv { w with drawn := w.drawn + 1 } tm t k = pv w tm t k := by cases k <;> rfl
    rw [hpv]
    exact ht.keep fun g ho => ⟨rfl, rfl, ho⟩
def renO (O : Om) (d : Nat) (rho : Nat → Nat → Option Nat) : Om := fun g => match O g with
  | none => none
  | some (t, k) => match rho t k with
    | none => some (t, k)
    | some k' => some (d, k')
theorem Rl.xfer {P : Program} {N : Nat} {G : Gh} {O : Om} {w : World} {tm : Array Value} {st : St} (h : Rl P N G O w tm st) {d : Nat} (hd : d < N) {v : Value} {a : AV} (hv : RS G v a) {tk : Nat → Option (Option TypeId)} (rho : Nat → Nat → Option Nat)
    (hbox : ∀ t T cs, t ≠ d → st.val t = .box T cs → rho t 0 = none) (hcomp : ∀ k E, tk (k + 1) = some E → a.comp = true)
    (htk : ∀ k E, tk k = some E → (E = none ∧ pv w (tm.setIfInBounds d v) d k = .slice none 0 0) ∨ ∃ t j, rho t j = some k ∧ st.tok t j = some E ∧ pv w (tm.setIfInBounds d v) d k = pv w tm t j) :
    Rl P N G (renO O d rho) w (tm.setIfInBounds d v) (st.put (fun t k => (rho t k).isSome) d a tk) := by
  refine h.upd hd h.cells (.refl _) (fun g p hp => ?_) (fun g p ho h1 h2 => ⟨rfl, rfl, ?_⟩) (fun t T cs e hb => by rw [hbox t T cs e hb]; rfl) (.sh hv) (fun k E hE => ?_) hcomp
  · unfold renO at hp
    split at hp
    · cases hp
    · next t k ho => exact h.owned g _ ho
  · unfold renO
    rw [ho]
    have : rho p.1 p.2 = none := by simpa using h2
    simp only [this]
  · rcases htk k E hE with ⟨rfl, h3⟩ | ⟨t, j, h1, h2, h3⟩
    · exact h3
    rw [h3]
    have ht := h.toks t j E h2
    cases E with
    | none => exact ht
    | some E =>
      obtain ⟨n, xs, hr, hg⟩ := ht
      refine ⟨n, xs, hr, fun g hv => ?_⟩
      obtain ⟨g1, g2⟩ := hg g hv
      refine ⟨?_, g2⟩
      unfold renO
      rw [g1]
      simp only [h1]
theorem fr_ren {G : Gh} {O : Om} {w : World} (d : Nat) (rho : Nat → Nat → Option Nat) : Fr G O w G (renO O d rho) w := ⟨rfl, rfl, rfl, Nat.le_refl _, .refl _, fun g _ ho => ⟨rfl, rfl, by unfold renO; rw [ho]⟩⟩
theorem Rl.fresh {P : Program} {N : Nat} {G : Gh} {O : Om} {w : World} {tm : Array Value} {st : St} (h : Rl P N G O w tm st) : (∀ i a, ¬ G w.heap.size i a) ∧ O w.heap.size = none := by
  constructor
  · intro i a hg
    obtain ⟨v, hc, _⟩ := h.cells _ _ _ hg
    exact absurd (World.block_lt_of_cell? w _ hc) (Nat.lt_irrefl _)
  · cases ho : O w.heap.size with
    | none => rfl
    | some p => exact absurd (h.owned _ _ ho) (Nat.lt_irrefl _)
theorem Rl.newbox {P : Program} {N : Nat} {G : Gh} {O : Om} {w : World} {tm : Array Value} {st : St} (h : Rl P N G O w tm st) {d : Nat} (hd : d < N) (T : TypeId) (vs : Array Value) (cs : List AV) (hl : vs.size = cs.length)
    (hc : ∀ (j : Nat) (v : Value) (a : AV), vs[j]? = some v → cs[j]? = some a → v.oneCell' = true ∧ RS G v a) (rho : Nat → Nat → Option Nat) (hbox : ∀ t T cs, t ≠ d → st.val t = .box T cs → rho t 0 = none) {tk : Nat → Option (Option TypeId)} (htk0 : tk 0 = none)
    (htk : ∀ k E, tk (k + 1) = some E → (E = none ∧ vs[k]? = some (.slice none 0 0)) ∨ ∃ t j, rho t j = some (k + 1) ∧ st.tok t j = some E ∧ vs[k]? = some (pv w tm t j)) :
    Rl P N G (fun g => if g = w.heap.size then some (d, 0) else renO O d rho g) (w.alloc (.cells vs T)) (tm.setIfInBounds d (.pointer (some ⟨w.heap.size, 0, none⟩))) (st.put (fun t k => (rho t k).isSome) d (.box T cs) tk) ∧
    Fr G O w G (fun g => if g = w.heap.size then some (d, 0) else renO O d rho g) (w.alloc (.cells vs T)) := by
  obtain ⟨hG, hO⟩ := h.fresh
  have hd' : d < tm.size := by rw [h.size]; exact hd
  refine ⟨h.upd hd (fun g i a hg => ?_) (.refl _) (fun g p hp => ?_) (fun g p ho h1 h2 => ⟨?_, rfl, ?_⟩) (fun t T cs e hb => by rw [hbox t T cs e hb]; rfl) ?_ (fun k E hE => ?_) (fun _ _ _ => rfl), rfl, rfl, rfl, by simp, .refl _, fun g hg ho => ⟨Below.heap_alloc _ _ _ hg, rfl, ?_⟩⟩
  · obtain ⟨v, h1, h2⟩ := h.cells g i a hg
    exact ⟨v, cell_al h1, h2⟩
  · by_cases e : g = w.heap.size
    · subst e; simp
    · have hp : renO O d rho g = some p := by simpa [e] using hp
      unfold renO at hp
      split at hp
      · cases hp
      · next t k ho => have := h.owned g _ ho; simp; omega
  · exact Below.heap_alloc _ _ _ (h.owned g p ho)
  · have hne : g ≠ w.heap.size := Nat.ne_of_lt (h.owned g p ho)
    simp only [hne, if_false]
    unfold renO
    rw [ho]
    have : rho p.1 p.2 = none := by simpa using h2
    simp only [this]
  · exact .box _ T cs vs (by simp) hG (heap_alloc_new _ _) hl hc
  · cases k with
    | zero => rw [htk0] at hE; cases hE
    | succ k =>
      have hpv : pv (w.alloc (.cells vs T)) (tm.setIfInBounds d (.pointer (some ⟨w.heap.size, 0, none⟩))) d (k + 1) = (vs[k]?).getD undef := by
        simp only [pv, getD_set_eq' hd']
        rw [Nat.zero_add, cell_of_row _ _ k _ _ _ (heap_alloc_new w _)]
      rw [hpv]
      rcases htk k E hE with ⟨rfl, hn⟩ | ⟨t, j, h1, h2, h3⟩
      · rw [hn]; rfl
      · rw [h3]
        have ht := h.toks t j E h2
        cases E with
        | none => exact ht
        | some E =>
          obtain ⟨n, xs, hr, hg⟩ := ht
          refine ⟨n, xs, World.ownsRow.alloc hr _, fun g hv => ?_⟩
          obtain ⟨g1, g2⟩ := hg g hv
          have hne : g ≠ w.heap.size := Nat.ne_of_lt (h.owned g _ g1)
          refine ⟨?_, g2⟩
          simp only [hne, if_false]
          unfold renO
          rw [g1]
          simp only [h1]
  · have hne : g ≠ w.heap.size := Nat.ne_of_lt hg
    simp only [hne, if_false]
    unfold renO
    rw [ho]
end Go.Proofs.YtldnkeackphilaaGreatDoor
