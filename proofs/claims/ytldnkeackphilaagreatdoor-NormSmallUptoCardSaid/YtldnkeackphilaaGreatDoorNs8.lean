/- The linear calculus: values with names, states, what they mean in a world. -/
import Derived.Test.YtldnkeackphilaaGreatDoorNs7
set_option linter.unusedSimpArgs false
set_option linter.unusedVariables false
namespace Go.Proofs.YtldnkeackphilaaGreatDoor.X
open Go.RowKit

structure NV where
  blk : Option Nat
  cap : Nat
  sz : Nat
abbrev Nu := Nat → Option NV
inductive RN (G : Gh) (ν : Nu) : Value → AV → Prop
  | sh {v : Value} {a : AV} (h : RS G v a) : RN G ν v a
  | nl : RN G ν (.slice none 0 0) .nl
  | ref (n off g cap sz : Nat) (h : ν n = some ⟨some g, cap, sz⟩) : RN G ν (.pointer (some ⟨g, off, none⟩)) (.ref n off)
  | elt (n i j g cap sz : Nat) (h : ν n = some ⟨some g, cap, sz⟩) : RN G ν (.pointer (some ⟨g, i * sz + j, none⟩)) (.elt n i j)
  | rw (n lo len g cap sz o : Nat) (h : ν n = some ⟨some g, cap, sz⟩) (hc : lo + len ≤ cap) (ho : lo < cap ∨ lo = 0 → o = lo * sz) : RN G ν (.slice (some ⟨g, o, none⟩) len (cap - lo)) (.rw n lo len)
  | rw0 (n cap sz : Nat) (h : ν n = some ⟨none, cap, sz⟩) : RN G ν (.slice none 0 0) (.rw n 0 0)
  | agg (vs : Array Value) (cs : List AV) (hl : vs.size = cs.length) (h1 : ∀ (j : Nat) (v : Value), vs[j]? = some v → v.oneCell' = true) (h : ∀ (j : Nat) (v : Value) (a : AV), vs[j]? = some v → cs[j]? = some a → RN G ν v a) : RN G ν (.agg vs) (.agg cs)
  | tup (vs : Array Value) (cs : List AV) (hl : vs.size = cs.length) (h : ∀ (j : Nat) (v : Value) (a : AV), vs[j]? = some v → cs[j]? = some a → RN G ν v a) : RN G ν (.tuple vs) (.tup cs)
  | ifc (t : TypeId) (v : Value) (a : AV) (h : RN G ν v a) : RN G ν (.iface t v) (.ifc t a)
  | fnc (f : Nat) (vs : Array Value) (cs : List AV) (hl : vs.size = cs.length) (h : ∀ (j : Nat) (v : Value) (a : AV), vs[j]? = some v → cs[j]? = some a → RN G ν v a) : RN G ν (.func (.func f) #[] vs) (.fnc f cs)
def Ext (ν ν' : Nu) : Prop := ∀ n x, ν n = some x → ν' n = some x
theorem Ext.refl (ν : Nu) : Ext ν ν := fun _ _ h => h
theorem Ext.trans {a b c : Nu} (h : Ext a b) (k : Ext b c) : Ext a c := fun n x e => k n x (h n x e)
theorem RN.mono {G H : Gh} {ν ν' : Nu} (hg : Gle G H) (hn : Ext ν ν') {v : Value} {a : AV} (h : RN G ν v a) : RN H ν' v a := by
  induction h with
  | sh h => exact .sh (h.mono hg)
  | nl => exact .nl
  | ref n off g cap sz h => exact .ref n off g cap sz (hn _ _ h)
  | elt n i j g cap sz h => exact .elt n i j g cap sz (hn _ _ h)
  | rw n lo len g cap sz o h hc ho => exact .rw n lo len g cap sz o (hn _ _ h) hc ho
  | rw0 n cap sz h => exact .rw0 n cap sz (hn _ _ h)
  | agg vs cs hl h1 _ ih => exact .agg vs cs hl h1 ih
  | tup vs cs hl _ ih => exact .tup vs cs hl ih
  | ifc t v a _ ih => exact .ifc t v a ih
  | fnc f vs cs hl _ ih => exact .fnc f vs cs hl ih
section
variable {G : Gh} {ν : Nu} {v : Value}
theorem RN.immI {x : Value} (h : RN G ν v (.imm x)) : v = x ∧ x.oneCell' = true := by
  cases h with
  | sh h => cases h with
    | imm v h => exact ⟨rfl, h⟩
theorem RN.slI {es : List (List AV)} (h : RN G ν v (.sl es)) : RS G v (.sl es) := by
  cases h with
  | sh h => exact h
theorem RN.ptrI {cs : List AV} (h : RN G ν v (.ptr cs)) : ∃ g o, v = .pointer (some ⟨g, o, none⟩) ∧ ∀ (j : Nat) a, cs[j]? = some a → G g (o + j) a := by
  cases h with
  | sh h => cases h with
    | ptr g o cs h => exact ⟨g, o, rfl, h⟩
theorem RN.nlI (h : RN G ν v .nl) : v = .slice none 0 0 := by
  cases h with
  | sh h => cases h
  | nl => rfl
theorem RN.refI {n off : Nat} (h : RN G ν v (.ref n off)) : ∃ g cap sz, ν n = some ⟨some g, cap, sz⟩ ∧ v = .pointer (some ⟨g, off, none⟩) := by
  cases h with
  | sh h => cases h
  | ref n off g cap sz h => exact ⟨g, cap, sz, h, rfl⟩
theorem RN.eltI {n i j : Nat} (h : RN G ν v (.elt n i j)) : ∃ g cap sz, ν n = some ⟨some g, cap, sz⟩ ∧ v = .pointer (some ⟨g, i * sz + j, none⟩) := by
  cases h with
  | sh h => cases h
  | elt n i j g cap sz h => exact ⟨g, cap, sz, h, rfl⟩
theorem RN.rwI {n lo len : Nat} (h : RN G ν v (.rw n lo len)) : (∃ cap sz, ν n = some ⟨none, cap, sz⟩ ∧ v = .slice none 0 0 ∧ lo = 0 ∧ len = 0) ∨ ∃ g cap sz o, ν n = some ⟨some g, cap, sz⟩ ∧ v = .slice (some ⟨g, o, none⟩) len (cap - lo) ∧ lo + len ≤ cap ∧ (lo < cap ∨ lo = 0 → o = lo * sz) := by
  cases h with
  | sh h => cases h
  | rw n lo len g cap sz o h hc ho => exact .inr ⟨g, cap, sz, o, h, rfl, hc, ho⟩
  | rw0 n cap sz h => exact .inl ⟨cap, sz, h, rfl, rfl, rfl⟩
theorem RN.aggI {cs : List AV} (h : RN G ν v (.agg cs)) : ∃ vs, v = .agg vs ∧ vs.size = cs.length ∧ (∀ (j : Nat) (v : Value), vs[j]? = some v → v.oneCell' = true) ∧ ∀ (j : Nat) (v : Value) (a : AV), vs[j]? = some v → cs[j]? = some a → RN G ν v a := by
  cases h with
  | sh h => cases h with
    | agg vs cs hl h1 h => exact ⟨vs, rfl, hl, h1, fun j v a e1 e2 => .sh (h j v a e1 e2)⟩
  | agg vs cs hl h1 h => exact ⟨vs, rfl, hl, h1, h⟩
theorem RN.tupI {cs : List AV} (h : RN G ν v (.tup cs)) : ∃ vs, v = .tuple vs ∧ vs.size = cs.length ∧ ∀ (j : Nat) (v : Value) (a : AV), vs[j]? = some v → cs[j]? = some a → RN G ν v a := by
  cases h with
  | sh h => cases h with
    | tup vs cs hl h => exact ⟨vs, rfl, hl, fun j v a e1 e2 => .sh (h j v a e1 e2)⟩
  | tup vs cs hl h => exact ⟨vs, rfl, hl, h⟩
theorem RN.ifcI {t : TypeId} {a : AV} (h : RN G ν v (.ifc t a)) : ∃ u, v = .iface t u ∧ RN G ν u a := by
  cases h with
  | sh h => cases h with
    | ifc t v a h => exact ⟨v, rfl, .sh h⟩
  | ifc t v a h => exact ⟨v, rfl, h⟩
theorem RN.fncI {f : Nat} {cs : List AV} (h : RN G ν v (.fnc f cs)) : ∃ vs, v = .func (.func f) #[] vs ∧ vs.size = cs.length ∧ ∀ (j : Nat) (v : Value) (a : AV), vs[j]? = some v → cs[j]? = some a → RN G ν v a := by
  cases h with
  | sh h => cases h
  | fnc f vs cs hl h => exact ⟨vs, rfl, hl, h⟩
theorem RN.cndI {y : Bool} {a : AV} (h : RN G ν v (.cnd y a)) : False := by
  cases h with
  | sh h => cases h
theorem RN.cells {a : AV} (h : RN G ν v a) (hw : a.whole = true) : v.cells.size = a.cells.length ∧ ∀ (j : Nat) u b, v.cells[j]? = some u → a.cells[j]? = some b → RN G ν u b ∧ u.oneCell' = true := by
  have one : ∀ {v : Value} {a : AV}, RN G ν v a → v.oneCell' = true → v.cells = #[v] → a.cells = [a] → v.cells.size = a.cells.length ∧ ∀ (j : Nat) u b, v.cells[j]? = some u → a.cells[j]? = some b → RN G ν u b ∧ u.oneCell' = true := by
    intro v a h h1 hv ha
    rw [hv, ha]
    refine ⟨rfl, fun j u b hu hb => ?_⟩
    cases j with
    | zero => simp at hu hb; subst hu hb; exact ⟨h, h1⟩
    | succ j => simp at hb
  cases h with
  | sh h =>
    obtain ⟨h1, h2⟩ := h.cells hw
    exact ⟨h1, fun j u b e1 e2 => ⟨.sh (h2 j u b e1 e2).1, (h2 j u b e1 e2).2⟩⟩
  | nl => exact one .nl rfl rfl rfl
  | ref n off g cap sz h => exact one (.ref n off g cap sz h) rfl rfl rfl
  | elt n i j g cap sz h => exact one (.elt n i j g cap sz h) rfl rfl rfl
  | rw n lo len g cap sz o h hc ho => exact one (.rw n lo len g cap sz o h hc ho) rfl rfl rfl
  | rw0 n cap sz h => exact one (.rw0 n cap sz h) rfl rfl rfl
  | agg vs cs hl h1 h => exact ⟨hl, fun j u b hu hb => ⟨h j u b hu hb, h1 j u hu⟩⟩
  | tup => cases hw
  | ifc t v a h => exact one (.ifc t v a h) rfl rfl rfl
  | fnc f vs cs hl h => exact one (.fnc f vs cs hl h) rfl rfl rfl
end
inductive Blk where
  | box (T : TypeId) (cs : List AV)
  | row (E : TypeId) (es : List (List AV))
instance : Inhabited Blk := ⟨.box 0 []⟩
mutual
def pureA : AV → Bool
  | .imm _ => true
  | .sl _ => true
  | .ptr _ => true
  | .nl => true
  | .agg cs => pureL cs
  | .tup cs => pureL cs
  | .ifc _ a => pureA a
  | _ => false
def pureL : List AV → Bool
  | [] => true
  | a :: l => pureA a && pureL l
end
mutual
def fixA : AV → AV
  | .nl => .sl []
  | .agg cs => .agg (fixL cs)
  | .tup cs => .tup (fixL cs)
  | .ifc t a => .ifc t (fixA a)
  | a => a
def fixL : List AV → List AV
  | [] => []
  | a :: l => fixA a :: fixL l
end
def subR (off : Nat) (a : AV) : Blk → AV
  | .box _ cs => .ptr (cs.drop off)
  | _ => a
def subE (i j : Nat) (a : AV) : Blk → AV
  | .row _ es => .ptr ((es.getD i []).drop j)
  | _ => a
def subS (lo len : Nat) (a : AV) : Blk → AV
  | .row _ es => if lo + len ≤ es.length then .sl ((es.drop lo).take len) else a
  | _ => a
mutual
def subA (n : Nat) (B : Blk) : AV → AV
  | .ref m off => if m = n then subR off (.ref m off) B else .ref m off
  | .elt m i j => if m = n then subE i j (.elt m i j) B else .elt m i j
  | .rw m lo len => if m = n then subS lo len (.rw m lo len) B else .rw m lo len
  | .agg cs => .agg (subL n B cs)
  | .tup cs => .tup (subL n B cs)
  | .ifc t a => .ifc t (subA n B a)
  | a => a
def subL (n : Nat) (B : Blk) : List AV → List AV
  | [] => []
  | a :: l => subA n B a :: subL n B l
end
def subK (n : Nat) (B : Blk) : Blk → Blk
  | .box T cs => .box T (subL n B cs)
  | .row E es => .row E es
mutual
def refsA : AV → List Nat
  | .ref n _ => [n]
  | .elt n _ _ => [n]
  | .rw n _ _ => [n]
  | .agg cs => refsL cs
  | .tup cs => refsL cs
  | .ifc _ a => refsA a
  | .fnc _ cs => refsL cs
  | .cnd _ a => refsA a
  | _ => []
def refsL : List AV → List Nat
  | [] => []
  | a :: l => refsA a ++ refsL l
end
def refsK : Blk → List Nat
  | .box _ cs => refsL cs
  | .row _ _ => []
mutual
def renA (σ : Nat → Nat) : AV → AV
  | .ref n off => .ref (σ n) off
  | .elt n i j => .elt (σ n) i j
  | .rw n lo len => .rw (σ n) lo len
  | .agg cs => .agg (renL σ cs)
  | .tup cs => .tup (renL σ cs)
  | .ifc t a => .ifc t (renA σ a)
  | .fnc f cs => .fnc f (renL σ cs)
  | a => a
def renL (σ : Nat → Nat) : List AV → List AV
  | [] => []
  | a :: l => renA σ a :: renL σ l
end
def renK (σ : Nat → Nat) : Blk → Blk
  | .box T cs => .box T (renL σ cs)
  | .row E es => .row E es
theorem fixL_get : ∀ (cs : List AV) (j : Nat), (fixL cs)[j]? = (cs[j]?).map fixA
  | [], j => by simp [fixL]
  | c :: cs, 0 => by simp [fixL]
  | c :: cs, j + 1 => by simp [fixL, fixL_get cs j]
theorem subL_get (n : Nat) (B : Blk) : ∀ (cs : List AV) (j : Nat), (subL n B cs)[j]? = (cs[j]?).map (subA n B)
  | [], j => by simp [subL]
  | c :: cs, 0 => by simp [subL]
  | c :: cs, j + 1 => by simp [subL, subL_get n B cs j]
theorem renL_get (σ : Nat → Nat) : ∀ (cs : List AV) (j : Nat), (renL σ cs)[j]? = (cs[j]?).map (renA σ)
  | [], j => by simp [renL]
  | c :: cs, 0 => by simp [renL]
  | c :: cs, j + 1 => by simp [renL, renL_get σ cs j]
theorem fixL_len : ∀ (cs : List AV), (fixL cs).length = cs.length
  | [] => rfl
  | c :: cs => by simp [fixL, fixL_len cs]
theorem subL_len (n : Nat) (B : Blk) : ∀ (cs : List AV), (subL n B cs).length = cs.length
  | [] => rfl
  | c :: cs => by simp [subL, subL_len n B cs]
theorem renL_len (σ : Nat → Nat) : ∀ (cs : List AV), (renL σ cs).length = cs.length
  | [] => rfl
  | c :: cs => by simp [renL, renL_len σ cs]
theorem pureL_get : ∀ {cs : List AV}, pureL cs = true → ∀ {j : Nat} {a : AV}, cs[j]? = some a → pureA a = true
  | [], _, j, a, h => by simp at h
  | c :: cs, hp, 0, a, h => by simp at h; subst h; simp only [pureL, Bool.and_eq_true] at hp; exact hp.1
  | c :: cs, hp, j + 1, a, h => by simp only [pureL, Bool.and_eq_true] at hp; exact pureL_get hp.2 (by simpa using h)
theorem refsL_get : ∀ {cs : List AV} {j : Nat} {a : AV}, cs[j]? = some a → ∀ n ∈ refsA a, n ∈ refsL cs
  | [], j, a, h => by simp at h
  | c :: cs, 0, a, h => by simp at h; subst h; intro n hn; simp [refsL, hn]
  | c :: cs, j + 1, a, h => by intro n hn; simp only [refsL, List.mem_append]; exact .inr (refsL_get (cs := cs) (j := j) (by simpa using h) n hn)
theorem rs_fix {G : Gh} {v : Value} {a : AV} (h : RS G v a) : RS G v (fixA a) := by
  induction h with
  | imm v h => exact .imm v h
  | nil => exact .nil
  | sl g o sz c es hsz hc hcell => exact .sl g o sz c es hsz hc hcell
  | ptr g o cs hcell => exact .ptr g o cs hcell
  | agg vs cs hl h1 _ ih =>
    refine .agg vs _ (by rw [fixL_len]; exact hl) h1 fun j v a hv ha => ?_
    rw [fixL_get] at ha
    obtain ⟨b, hb, rfl⟩ := Option.map_eq_some_iff.1 ha
    exact ih j v b hv hb
  | tup vs cs hl _ ih =>
    refine .tup vs _ (by rw [fixL_len]; exact hl) fun j v a hv ha => ?_
    rw [fixL_get] at ha
    obtain ⟨b, hb, rfl⟩ := Option.map_eq_some_iff.1 ha
    exact ih j v b hv hb
  | ifc t v a _ ih => exact .ifc t v _ ih
theorem rs_ren {G : Gh} {v : Value} {a : AV} (h : RS G v a) (σ : Nat → Nat) : RS G v (renA σ a) := by
  induction h with
  | imm v h => exact .imm v h
  | nil => exact .nil
  | sl g o sz c es hsz hc hcell => exact .sl g o sz c es hsz hc hcell
  | ptr g o cs hcell => exact .ptr g o cs hcell
  | agg vs cs hl h1 _ ih =>
    refine .agg vs _ (by rw [renL_len]; exact hl) h1 fun j v a hv ha => ?_
    rw [renL_get] at ha
    obtain ⟨b, hb, rfl⟩ := Option.map_eq_some_iff.1 ha
    exact ih j v b hv hb
  | tup vs cs hl _ ih =>
    refine .tup vs _ (by rw [renL_len]; exact hl) fun j v a hv ha => ?_
    rw [renL_get] at ha
    obtain ⟨b, hb, rfl⟩ := Option.map_eq_some_iff.1 ha
    exact ih j v b hv hb
  | ifc t v a _ ih => exact .ifc t v _ ih
theorem RN.toRS {G : Gh} {ν : Nu} {v : Value} {a : AV} (h : RN G ν v a) : pureA a = true → RS G v (fixA a) := by
  induction h with
  | sh h => exact fun _ => rs_fix h
  | nl => exact fun _ => .nil
  | ref | elt | rw | rw0 | fnc => exact fun h => by simp [pureA] at h
  | agg vs cs hl h1 _ ih =>
    intro hp
    refine .agg vs _ (by rw [fixL_len]; exact hl) h1 fun j v a hv ha => ?_
    rw [fixL_get] at ha
    obtain ⟨b, hb, rfl⟩ := Option.map_eq_some_iff.1 ha
    exact ih j v b hv hb (pureL_get (by simpa [pureA] using hp) hb)
  | tup vs cs hl _ ih =>
    intro hp
    refine .tup vs _ (by rw [fixL_len]; exact hl) fun j v a hv ha => ?_
    rw [fixL_get] at ha
    obtain ⟨b, hb, rfl⟩ := Option.map_eq_some_iff.1 ha
    exact ih j v b hv hb (pureL_get (by simpa [pureA] using hp) hb)
  | ifc t v a _ ih => exact fun hp => .ifc t v _ (ih (by simpa [pureA] using hp))
theorem RN.ren {G : Gh} {ν ν' : Nu} {σ : Nat → Nat} {v : Value} {a : AV} (h : RN G ν v a) : (∀ n ∈ refsA a, ∀ x, ν n = some x → ν' (σ n) = some x) → RN G ν' v (renA σ a) := by
  induction h with
  | sh h => exact fun _ => .sh (rs_ren h σ)
  | nl => exact fun _ => .nl
  | ref n off g cap sz h => exact fun k => .ref _ off g cap sz (k n (by simp [refsA]) _ h)
  | elt n i j g cap sz h => exact fun k => .elt _ i j g cap sz (k n (by simp [refsA]) _ h)
  | rw n lo len g cap sz o h hc ho => exact fun k => .rw _ lo len g cap sz o (k n (by simp [refsA]) _ h) hc ho
  | rw0 n cap sz h => exact fun k => .rw0 _ cap sz (k n (by simp [refsA]) _ h)
  | agg vs cs hl h1 _ ih =>
    intro k
    refine .agg vs _ (by rw [renL_len]; exact hl) h1 fun j v a hv ha => ?_
    rw [renL_get] at ha
    obtain ⟨b, hb, rfl⟩ := Option.map_eq_some_iff.1 ha
    exact ih j v b hv hb fun n hn => k n (by simp only [refsA]; exact refsL_get hb n hn)
  | tup vs cs hl _ ih =>
    intro k
    refine .tup vs _ (by rw [renL_len]; exact hl) fun j v a hv ha => ?_
    rw [renL_get] at ha
    obtain ⟨b, hb, rfl⟩ := Option.map_eq_some_iff.1 ha
    exact ih j v b hv hb fun n hn => k n (by simp only [refsA]; exact refsL_get hb n hn)
  | ifc t v a _ ih => exact fun k => .ifc t v _ (ih fun n hn => k n (by simpa [refsA] using hn))
  | fnc f vs cs hl _ ih =>
    intro k
    refine .fnc f vs _ (by rw [renL_len]; exact hl) fun j v a hv ha => ?_
    rw [renL_get] at ha
    obtain ⟨b, hb, rfl⟩ := Option.map_eq_some_iff.1 ha
    exact ih j v b hv hb fun n hn => k n (by simp only [refsA]; exact refsL_get hb n hn)
theorem rs_sub {G : Gh} {v : Value} {a : AV} (h : RS G v a) (n : Nat) (B : Blk) : RS G v (subA n B a) := by
  induction h with
  | imm v h => exact .imm v h
  | nil => exact .nil
  | sl g o sz c es hsz hc hcell => exact .sl g o sz c es hsz hc hcell
  | ptr g o cs hcell => exact .ptr g o cs hcell
  | agg vs cs hl h1 _ ih =>
    refine .agg vs _ (by rw [subL_len]; exact hl) h1 fun j v a hv ha => ?_
    rw [subL_get] at ha
    obtain ⟨b, hb, rfl⟩ := Option.map_eq_some_iff.1 ha
    exact ih j v b hv hb
  | tup vs cs hl _ ih =>
    refine .tup vs _ (by rw [subL_len]; exact hl) fun j v a hv ha => ?_
    rw [subL_get] at ha
    obtain ⟨b, hb, rfl⟩ := Option.map_eq_some_iff.1 ha
    exact ih j v b hv hb
  | ifc t v a _ ih => exact .ifc t v _ ih
def openG (B : Blk) : Nat → Option AV := fun j => match B with
  | .box _ cs => cs[j]?
  | .row _ es => es.flatten[j]?
def blkOf (ν : Nu) (n : Nat) : Option Nat := (ν n).bind (·.blk)
def BlkR (P : Program) (G : Gh) (ν : Nu) (w : World) (n : Nat) : Blk → Prop
  | .box T cs => ∃ g cap sz, ν n = some ⟨some g, cap, sz⟩ ∧ (∀ i a, ¬ G g i a) ∧ ∃ vs, w.heap[g]? = some (.cells vs T (0, 0)) ∧ vs.size = cs.length ∧ ∀ (j : Nat) v a, vs[j]? = some v → cs[j]? = some a → v.oneCell' = true ∧ RN G ν v a
  | .row E es => (∀ e ∈ es, e.length = szP P E) ∧ ((∃ cap, ν n = some ⟨none, cap, szP P E⟩ ∧ es = []) ∨ ∃ g cap, ν n = some ⟨some g, cap, szP P E⟩ ∧ (∀ i a, ¬ G g i a) ∧ es.length ≤ cap ∧ cap ≤ maxLen ∧ ∃ vs, w.heap[g]? = some (.cells vs E (0, 0)) ∧ vs.size = cap * szP P E ∧
      ∀ (j : Nat) v a, vs[j]? = some v → es.flatten[j]? = some a → v.oneCell' = true ∧ RS G v a)
theorem BlkR.keep {P : Program} {G G' : Gh} {ν ν' : Nu} {w w' : World} {n : Nat} {B : Blk} (h : BlkR P G ν w n B) (hle : Gle G G') (hx : Ext ν ν') (hk : ∀ g, blkOf ν n = some g → w'.heap[g]? = w.heap[g]? ∧ G' g = G g) : BlkR P G' ν' w' n B := by
  cases B with
  | box T cs =>
    obtain ⟨g, cap, sz, h1, h2, vs, h3, h4, h5⟩ := h
    obtain ⟨k1, k2⟩ := hk g (by simp [blkOf, h1])
    exact ⟨g, cap, sz, hx _ _ h1, fun i a => by rw [k2]; exact h2 i a, vs, k1.trans h3, h4, fun j v a e1 e2 => ⟨(h5 j v a e1 e2).1, (h5 j v a e1 e2).2.mono hle hx⟩⟩
  | row E es =>
    obtain ⟨h0, h⟩ := h
    refine ⟨h0, ?_⟩
    rcases h with ⟨cap, h1, h2⟩ | ⟨g, cap, h1, h2, h3, h4, vs, h5, h6, h7⟩
    · exact .inl ⟨cap, hx _ _ h1, h2⟩
    · obtain ⟨k1, k2⟩ := hk g (by simp [blkOf, h1])
      exact .inr ⟨g, cap, hx _ _ h1, fun i a => by rw [k2]; exact h2 i a, h3, h4, vs, k1.trans h5, h6, fun j v a e1 e2 => ⟨(h7 j v a e1 e2).1, (h7 j v a e1 e2).2.mono hle⟩⟩
theorem BlkR.lt {P : Program} {G : Gh} {ν : Nu} {w : World} {n : Nat} {B : Blk} (h : BlkR P G ν w n B) {g : Nat} (hg : blkOf ν n = some g) : g < w.heap.size ∧ ∀ i a, ¬ G g i a := by
  have key : ∀ {o : Obj}, w.heap[g]? = some o → g < w.heap.size := fun h => (Array.getElem?_eq_some_iff.1 h).1
  cases B with
  | box T cs =>
    obtain ⟨g', cap, sz, h1, h2, vs, h3, h4, h5⟩ := h
    have : g' = g := by simpa [blkOf, h1] using hg
    subst this
    exact ⟨key h3, h2⟩
  | row E es =>
    obtain ⟨h0, h⟩ := h
    rcases h with ⟨cap, h1, h2⟩ | ⟨g', cap, h1, h2, h3, h4, vs, h5, h6, h7⟩
    · simp [blkOf, h1] at hg
    · have : g' = g := by simpa [blkOf, h1] using hg
      subst this
      exact ⟨key h5, h2⟩
structure St where
  val : Nat → AV
  blk : Nat → Option Blk
  usd : Nat → Bool
structure Cx where
  G : Gh
  w : World
  F : Nat → Prop
  K : Nat → Option NV
inductive RV2 (G : Gh) (ν : Nu) : Value → AV → Prop
  | x {v : Value} {a : AV} (h : RN G ν v a) : RV2 G ν v a
  | cnd (y : Bool) (v : Value) (a : AV) (h1 : y = true → RN G ν v a) (h2 : y = false → v = undef) : RV2 G ν v (.cnd y a)
  | dead (v : Value) : RV2 G ν v .dead
theorem RV2.mono {G H : Gh} {ν ν' : Nu} (hg : Gle G H) (hn : Ext ν ν') {v : Value} {a : AV} (h : RV2 G ν v a) : RV2 H ν' v a := by
  cases h with
  | x h => exact .x (h.mono hg hn)
  | cnd y v a h1 h2 => exact .cnd y v a (fun hy => (h1 hy).mono hg hn) h2
  | dead => exact .dead _
structure Frm (C : Cx) (G : Gh) (w : World) : Prop where
  os : w.os = C.w.os
  tape : w.tape = C.w.tape
  output : w.output = C.w.output
  size : C.w.heap.size ≤ w.heap.size
  le : Gle C.G G
  old : ∀ g, g < C.w.heap.size → ¬ C.F g → w.heap[g]? = C.w.heap[g]? ∧ G g = C.G g
structure Inv (P : Program) (N : Nat) (C : Cx) (G : Gh) (ν : Nu) (w : World) (tm : Array Value) (st : St) : Prop where
  size : tm.size = N
  cells : CellsR G w
  vals : ∀ t, RV2 G ν (tm.getD t undef) (st.val t)
  blks : ∀ n B, st.blk n = some B → BlkR P G ν w n B
  inj : ∀ n m g, (st.blk n).isSome = true → (st.blk m).isSome = true → blkOf ν n = some g → blkOf ν m = some g → n = m
  news : ∀ n, st.usd n = false → ν n = none
  own : ∀ n g, (st.blk n).isSome = true → blkOf ν n = some g → C.w.heap.size ≤ g ∨ C.F g
  fr : Frm C G w
  kpt : ∀ n x, C.K n = some x → ν n = some x
end Go.Proofs.YtldnkeackphilaaGreatDoor.X
/- The linear calculus: what turns a state. -/
namespace Go.Proofs.YtldnkeackphilaaGreatDoor.X
open Go.RowKit

def Nu.set (ν : Nu) (n : Nat) (x : NV) : Nu := fun m => if m = n then some x else ν m
theorem Nu.set_eq (ν : Nu) (n : Nat) (x : NV) : ν.set n x n = some x := by simp [Nu.set]
theorem Nu.set_ne (ν : Nu) {n m : Nat} (x : NV) (h : m ≠ n) : ν.set n x m = ν m := by simp [Nu.set, h]
theorem ext_set {ν : Nu} {n : Nat} {x : NV} (h : ν n = none) : Ext ν (ν.set n x) := fun m y e => by
  have : m ≠ n := by rintro rfl; rw [h] at e; cases e
  rw [Nu.set_ne _ _ this]; exact e
theorem blkOf_set_ne {ν : Nu} {n m : Nat} {x : NV} (h : m ≠ n) : blkOf (ν.set n x) m = blkOf ν m := by simp [blkOf, Nu.set_ne _ _ h]
theorem blkOf_set_eq {ν : Nu} {n : Nat} {x : NV} : blkOf (ν.set n x) n = x.blk := by simp [blkOf, Nu.set_eq]
def St.putv (st : St) (d : Nat) (a : AV) : St := ⟨fun u => if u = d then a else st.val u, st.blk, st.usd⟩
def St.setB (st : St) (n : Nat) (b : Option Blk) : St := ⟨st.val, fun m => if m = n then b else st.blk m, st.usd⟩
def St.use (st : St) (n : Nat) : St := ⟨st.val, st.blk, fun m => m == n || st.usd m⟩
def St.drops (st : St) : List Nat → St
  | [] => st
  | n :: ns => (st.setB n none).drops ns
structure Eff where
  dst : Option Nat
  a : AV
  bs : List (Nat × Option Blk)
  us : List Nat
def St.setL (st : St) : List (Nat × Option Blk) → St
  | [] => st
  | p :: l => (st.setL l).setB p.1 p.2
def St.useL (st : St) : List Nat → St
  | [] => st
  | n :: l => (st.useL l).use n
def St.putO (st : St) (d : Option Nat) (a : AV) : St := match d with
  | some d => st.putv d a
  | none => st
def St.app (st : St) (e : Eff) : St := ((st.setL e.bs).useL e.us).putO e.dst e.a
theorem St.ext' {s s' : St} (h1 : ∀ u, s.val u = s'.val u) (h2 : ∀ n, s.blk n = s'.blk n) (h3 : ∀ n, s.usd n = s'.usd n) : s = s' := by
  cases s
  cases s'
  simp only [St.mk.injEq]
  exact ⟨funext h1, funext h2, funext h3⟩
def dropE (ns : List Nat) : List (Nat × Option Blk) := ns.map fun n => (n, none)
theorem setL_drop (st : St) : ∀ ns : List Nat, (st.setL (dropE ns)).val = st.val ∧ (st.setL (dropE ns)).usd = st.usd ∧ ∀ m, (st.setL (dropE ns)).blk m = if m ∈ ns then none else st.blk m
  | [] => ⟨rfl, rfl, fun m => by simp [St.setL, dropE]⟩
  | n :: ns => by
    obtain ⟨h1, h2, h3⟩ := setL_drop st ns
    refine ⟨h1, h2, fun m => ?_⟩
    show (if m = n then none else (st.setL (dropE ns)).blk m) = _
    rw [h3]
    by_cases e : m = n <;> simp [e]
theorem drops_is : ∀ (ns : List Nat) (st : St), (st.drops ns).val = st.val ∧ (st.drops ns).usd = st.usd ∧ ∀ m, (st.drops ns).blk m = if m ∈ ns then none else st.blk m
  | [], st => ⟨rfl, rfl, fun m => by simp [St.drops]⟩
  | n :: ns, st => by
    obtain ⟨h1, h2, h3⟩ := drops_is ns (st.setB n none)
    refine ⟨h1, h2, fun m => ?_⟩
    show ((st.setB n none).drops ns).blk m = _
    rw [h3]
    by_cases e : m = n <;> simp [St.setB, e]
theorem drops_eq (st : St) (ns : List Nat) : st.setL (dropE ns) = st.drops ns := by
  obtain ⟨h1, h2, h3⟩ := setL_drop st ns
  obtain ⟨k1, k2, k3⟩ := drops_is ns st
  exact St.ext' (fun u => by rw [h1, k1]) (fun n => by rw [h3, k3]) (fun n => by rw [h2, k2])
section
variable {P : Program} {N : Nat} {C : Cx} {G : Gh} {ν : Nu} {w : World} {tm : Array Value} {st : St}
theorem Inv.putv (h : Inv P N C G ν w tm st) {d : Nat} (hd : d < N) {v : Value} {a : AV} (hv : RV2 G ν v a) : Inv P N C G ν w (tm.setIfInBounds d v) (st.putv d a) := by
  have hds : d < tm.size := by rw [h.size]; exact hd
  refine ⟨by simp [h.size], h.cells, fun t => ?_, h.blks, h.inj, h.news, h.own, h.fr, h.kpt⟩
  by_cases e : t = d
  · subst e
    rw [getD_set_eq' hds]
    simpa [St.putv] using hv
  · rw [getD_set_ne' e]
    simpa [St.putv, e] using h.vals t
theorem cells_old {G : Gh} {w w' : World} (h : CellsR G w) (hold : ∀ g, (∃ i a, G g i a) → w'.heap[g]? = w.heap[g]?) : CellsR G w' := ⟨fun g i a hg => by
  obtain ⟨v, h1, h2, h3⟩ := h g i a hg
  exact ⟨v, (World.cell?_of_block (w := w) (hold g ⟨i, a, hg⟩)).trans h1, h2, h3⟩, h.gl⟩
theorem ghost_lt {G : Gh} {w : World} (h : CellsR G w) {g i : Nat} {a : AV} (hg : G g i a) : g < w.heap.size := by
  obtain ⟨v, h1, -⟩ := h g i a hg
  exact World.block_lt_of_cell? w _ h1
theorem Inv.world (h : Inv P N C G ν w tm st) {w' : World} (hh : w'.heap = w.heap) (h1 : w'.os = w.os) (h2 : w'.tape = w.tape) (h3 : w'.output = w.output) : Inv P N C G ν w' tm st :=
  ⟨h.size, cells_old h.cells fun g _ => by rw [hh], h.vals, fun n B hB => (h.blks n B hB).keep (.refl _) (.refl _) fun g _ => ⟨by rw [hh], rfl⟩, h.inj, h.news, h.own,
    ⟨h1.trans h.fr.os, h2.trans h.fr.tape, h3.trans h.fr.output, by rw [hh]; exact h.fr.size, h.fr.le, fun g k1 k2 => by rw [hh]; exact h.fr.old g k1 k2⟩, h.kpt⟩
theorem Inv.drop (h : Inv P N C G ν w tm st) (n : Nat) : Inv P N C G ν w tm (st.setB n none) := by
  have hs : ∀ m, ((st.setB n none).blk m).isSome = true → (st.blk m).isSome = true := fun m hm => by
    simp only [St.setB] at hm
    split at hm
    · cases hm
    · exact hm
  refine ⟨h.size, h.cells, h.vals, fun m B hB => ?_, fun m m' g h1 h2 => h.inj m m' g (hs m h1) (hs m' h2), h.news, fun m g hm => h.own m g (hs m hm), h.fr, h.kpt⟩
  simp only [St.setB] at hB
  split at hB
  · cases hB
  · exact h.blks m B hB
theorem Inv.drops : ∀ (ns : List Nat) {st : St}, Inv P N C G ν w tm st → Inv P N C G ν w tm (st.drops ns)
  | [], _, h => h
  | n :: ns, _, h => Inv.drops ns (h.drop n)
theorem Inv.use (h : Inv P N C G ν w tm st) (n : Nat) : Inv P N C G ν w tm (st.use n) :=
  ⟨h.size, h.cells, h.vals, h.blks, h.inj, fun m hm => h.news m (by simp only [St.use, Bool.or_eq_false_iff] at hm; exact hm.2), h.own, h.fr, h.kpt⟩
theorem BlkR.at {n d : Nat} {B : Blk} (h : BlkR P G ν w n B) {ν' : Nu} (he : ν' d = ν n) (hx : Ext ν ν') : BlkR P G ν' w d B := by
  cases B with
  | box T cs =>
    obtain ⟨g, cap, sz, h1, h2, vs, h3, h4, h5⟩ := h
    exact ⟨g, cap, sz, he.trans h1, h2, vs, h3, h4, fun j v a e1 e2 => ⟨(h5 j v a e1 e2).1, (h5 j v a e1 e2).2.mono (.refl _) hx⟩⟩
  | row E es =>
    obtain ⟨h0, h⟩ := h
    refine ⟨h0, ?_⟩
    rcases h with ⟨cap, h1, h2⟩ | ⟨g, cap, h1, h2⟩
    · exact .inl ⟨cap, he.trans h1, h2⟩
    · exact .inr ⟨g, cap, he.trans h1, h2⟩
theorem BlkR.nu {n : Nat} {B : Blk} (h : BlkR P G ν w n B) : ∃ x, ν n = some x := by
  cases B with
  | box T cs => obtain ⟨g, cap, sz, h1, -⟩ := h; exact ⟨_, h1⟩
  | row E es =>
    obtain ⟨-, h⟩ := h
    rcases h with ⟨cap, h1, -⟩ | ⟨g, cap, h1, -⟩ <;> exact ⟨_, h1⟩
theorem Inv.none_of (h : Inv P N C G ν w tm st) {n : Nat} (hn : st.usd n = false) : ν n = none ∧ st.blk n = none := by
  have h1 := h.news n hn
  refine ⟨h1, ?_⟩
  cases hb : st.blk n with
  | none => rfl
  | some B =>
    obtain ⟨x, hx⟩ := (h.blks n B hb).nu
    rw [h1] at hx
    cases hx
theorem Inv.new' (h : Inv P N C G ν w tm st) {n : Nat} (hn : st.usd n = false) (x : NV) (B : Blk) {w' : World} (h1 : w'.os = w.os) (h2 : w'.tape = w.tape) (h3 : w'.output = w.output) (hsz : w.heap.size ≤ w'.heap.size)
    (hold : ∀ g, g < w.heap.size → x.blk ≠ some g → w'.heap[g]? = w.heap[g]?) (hfree : ∀ g, x.blk = some g → (∀ m, (st.blk m).isSome = true → blkOf ν m ≠ some g) ∧ (C.w.heap.size ≤ g ∨ C.F g) ∧ ∀ i a, ¬ G g i a)
    (hB : BlkR P G (ν.set n x) w' n B) : Inv P N C G (ν.set n x) w' tm ((st.setB n (some B)).use n) := by
  obtain ⟨hnu, hnb⟩ := h.none_of hn
  have hx : Ext ν (ν.set n x) := ext_set hnu
  refine ⟨h.size, cells_old h.cells fun g ⟨i, a, hga⟩ => hold g (ghost_lt h.cells hga) (fun e => (hfree g e).2.2 i a hga), fun t => (h.vals t).mono (.refl _) hx, fun m B' hB' => ?_, fun m m' g hm hm' e1 e2 => ?_, fun m hm => ?_, fun m g hm e => ?_, ?_, fun m y e => hx m y (h.kpt m y e)⟩
  · simp only [St.use, St.setB] at hB'
    by_cases e : m = n
    · subst e
      simp only [if_true, Option.some.injEq] at hB'
      subst hB'
      exact hB
    · rw [if_neg e] at hB'
      exact (h.blks m B' hB').keep (.refl _) hx fun g hg' => ⟨hold g ((h.blks m B' hB').lt hg').1 (fun e => (hfree g e).1 m (by rw [hB']; rfl) hg'), rfl⟩
  · simp only [St.use, St.setB] at hm hm'
    by_cases e : m = n
    · by_cases e' : m' = n
      · rw [e, e']
      · rw [if_neg e'] at hm'
        subst e
        rw [blkOf_set_eq] at e1
        rw [blkOf_set_ne e'] at e2
        exact absurd e2 ((hfree g e1).1 m' hm')
    · rw [if_neg e] at hm
      by_cases e' : m' = n
      · subst e'
        rw [blkOf_set_eq] at e2
        rw [blkOf_set_ne e] at e1
        exact absurd e1 ((hfree g e2).1 m hm)
      · rw [if_neg e'] at hm'
        rw [blkOf_set_ne e] at e1
        rw [blkOf_set_ne e'] at e2
        exact h.inj m m' g hm hm' e1 e2
  · simp only [St.use, St.setB, Bool.or_eq_false_iff, beq_eq_false_iff_ne] at hm
    rw [Nu.set_ne _ _ hm.1]
    exact h.news m hm.2
  · simp only [St.use, St.setB] at hm
    by_cases e' : m = n
    · subst e'
      rw [blkOf_set_eq] at e
      exact (hfree g e).2.1
    · rw [if_neg e'] at hm
      rw [blkOf_set_ne e'] at e
      exact h.own m g hm e
  · refine ⟨h1.trans h.fr.os, h2.trans h.fr.tape, h3.trans h.fr.output, Nat.le_trans h.fr.size hsz, h.fr.le, fun g k1 k2 => ⟨(hold g (Nat.lt_of_lt_of_le k1 h.fr.size) (fun e => ?_)).trans (h.fr.old g k1 k2).1, (h.fr.old g k1 k2).2⟩⟩
    rcases (hfree g e).2.1 with h | h
    · omega
    · exact k2 h
theorem Inv.new (h : Inv P N C G ν w tm st) {n : Nat} (hn : st.usd n = false) (x : NV) (B : Blk) {w' : World} (h1 : w'.os = w.os) (h2 : w'.tape = w.tape) (h3 : w'.output = w.output) (hsz : w.heap.size ≤ w'.heap.size)
    (hold : ∀ g, g < w.heap.size → w'.heap[g]? = w.heap[g]?) (hg : ∀ g, x.blk = some g → w.heap.size ≤ g) (hB : BlkR P G (ν.set n x) w' n B) : Inv P N C G (ν.set n x) w' tm ((st.setB n (some B)).use n) :=
  h.new' hn x B h1 h2 h3 hsz (fun g k _ => hold g k) (fun g e => ⟨fun m hm hb => by
    obtain ⟨B', hB'⟩ := Option.isSome_iff_exists.1 hm
    have := ((h.blks m B' hB').lt hb).1
    have := hg g e
    omega, .inl (Nat.le_trans h.fr.size (hg g e)), fun i a hga => by
    have := ghost_lt h.cells hga
    have := hg g e
    omega⟩) hB
theorem Inv.chg (h : Inv P N C G ν w tm st) {n g : Nat} (hb : (st.blk n).isSome = true) (hg : blkOf ν n = some g) {B : Blk} {w' : World} (h1 : w'.os = w.os) (h2 : w'.tape = w.tape) (h3 : w'.output = w.output) (hsz : w.heap.size ≤ w'.heap.size)
    (hold : ∀ g', g' < w.heap.size → g' ≠ g → w'.heap[g']? = w.heap[g']?) (hB : BlkR P G ν w' n B) : Inv P N C G ν w' tm (st.setB n (some B)) := by
  obtain ⟨B0, hB0⟩ := Option.isSome_iff_exists.1 hb
  have hgG := ((h.blks n B0 hB0).lt hg).2
  have hs : ∀ m, ((st.setB n (some B)).blk m).isSome = true → (st.blk m).isSome = true := fun m hm => by
    simp only [St.setB] at hm
    split at hm
    · next e => rw [e]; exact hb
    · exact hm
  refine ⟨h.size, cells_old h.cells fun g' ⟨i, a, hga⟩ => hold g' (ghost_lt h.cells hga) (fun e => hgG i a (e ▸ hga)), h.vals, fun m B' hB' => ?_, fun m m' g hm hm' => h.inj m m' g (hs m hm) (hs m' hm'), h.news, fun m g hm => h.own m g (hs m hm), ?_, h.kpt⟩
  · simp only [St.setB] at hB'
    by_cases e : m = n
    · subst e
      simp only [if_true, Option.some.injEq] at hB'
      subst hB'
      exact hB
    · rw [if_neg e] at hB'
      refine (h.blks m B' hB').keep (.refl _) (.refl _) fun g' hg' => ⟨hold g' ((h.blks m B' hB').lt hg').1 ?_, rfl⟩
      rintro rfl
      exact e (h.inj m n g' (by rw [hB']; rfl) hb hg' hg)
  · refine ⟨h1.trans h.fr.os, h2.trans h.fr.tape, h3.trans h.fr.output, Nat.le_trans h.fr.size hsz, h.fr.le, fun g' k1 k2 => ⟨(hold g' (Nat.lt_of_lt_of_le k1 h.fr.size) ?_).trans (h.fr.old g' k1 k2).1, (h.fr.old g' k1 k2).2⟩⟩
    rintro rfl
    rcases h.own n g' hb hg with h | h
    · omega
    · exact k2 h
theorem Inv.ren (h : Inv P N C G ν w tm st) {n d : Nat} (hd : st.usd d = false) {B : Blk} (hb : st.blk n = some B) {x : NV} (hx : ν n = some x) : Inv P N C G (ν.set d x) w tm (((st.setB n none).setB d (some B)).use d) := by
  obtain ⟨hnu, hnb⟩ := h.none_of hd
  have hnd : n ≠ d := by rintro rfl; rw [hnb] at hb; cases hb
  have hxt : Ext ν (ν.set d x) := ext_set hnu
  let f : Nat → Nat := fun m => if m = d then n else m
  have hf : ∀ m, ((((st.setB n none).setB d (some B)).use d).blk m).isSome = true → (st.blk (f m)).isSome = true ∧ blkOf (ν.set d x) m = blkOf ν (f m) ∧ (m = d ∨ m ≠ n) := fun m hm => by
    simp only [St.use, St.setB] at hm
    by_cases e : m = d
    · subst e
      simp only [f, if_true]
      exact ⟨by rw [hb]; rfl, by rw [blkOf_set_eq]; simp [blkOf, hx], by simp⟩
    · simp only [f, e, if_false] at hm ⊢
      split at hm
      · cases hm
      · next e2 => exact ⟨hm, blkOf_set_ne e, .inr e2⟩
  refine ⟨h.size, h.cells, fun t => (h.vals t).mono (.refl _) hxt, fun m B' hB' => ?_, fun m m' g hm hm' e1 e2 => ?_, fun m hm => ?_, fun m g hm e => ?_, h.fr, fun m y e => hxt m y (h.kpt m y e)⟩
  · simp only [St.use, St.setB] at hB'
    by_cases e : m = d
    · subst e
      simp only [if_true, Option.some.injEq] at hB'
      subst hB'
      exact (h.blks n B hb).at (by rw [Nu.set_eq, hx]) hxt
    · rw [if_neg e] at hB'
      split at hB'
      · cases hB'
      · exact (h.blks m B' hB').keep (.refl _) hxt fun g _ => ⟨rfl, rfl⟩
  · obtain ⟨k1, k2, k3⟩ := hf m hm
    obtain ⟨q1, q2, q3⟩ := hf m' hm'
    have := h.inj (f m) (f m') g k1 q1 (k2 ▸ e1) (q2 ▸ e2)
    simp only [f] at this
    by_cases e : m = d
    · by_cases e' : m' = d
      · rw [e, e']
      · rw [if_pos e, if_neg e'] at this
        rcases q3 with q3 | q3
        · exact absurd q3 e'
        · exact absurd this.symm q3
    · rw [if_neg e] at this
      by_cases e' : m' = d
      · rw [if_pos e'] at this
        rcases k3 with k3 | k3
        · exact absurd k3 e
        · exact absurd this k3
      · rw [if_neg e'] at this
        exact this
  · simp only [St.use, St.setB, Bool.or_eq_false_iff, beq_eq_false_iff_ne] at hm
    rw [Nu.set_ne _ _ hm.1]
    exact h.news m hm.2
  · obtain ⟨k1, k2, -⟩ := hf m hm
    exact h.own (f m) g k1 (k2 ▸ e)
def pureK : Blk → Bool
  | .box _ cs => pureL cs
  | .row _ _ => true
def fixK : Blk → Blk
  | .box T cs => .box T (fixL cs)
  | .row E es => .row E es
theorem RN.sub {n : Nat} {B : Blk} {G' : Gh} (hle : Gle G G') (hb : BlkR P G ν w n B) (hopen : ∀ g, blkOf ν n = some g → ∀ j a, openG (fixK B) j = some a → G' g j a) {v : Value} {a : AV} (h : RN G ν v a) : RN G' ν v (subA n (fixK B) a) := by
  induction h with
  | sh h => exact .sh (rs_sub (h.mono hle) _ _)
  | nl => exact .nl
  | ref m off g cap sz h =>
    simp only [subA]
    by_cases e : m = n
    · subst e
      rw [if_pos rfl]
      cases B with
      | box T cs =>
        refine .sh (.ptr g off _ fun j a hj => hopen g (by simp [blkOf, h]) _ a ?_)
        rw [List.getElem?_drop] at hj
        exact hj
      | row E es => exact .ref m off g cap sz h
    · rw [if_neg e]
      exact .ref m off g cap sz h
  | elt m i j g cap sz h =>
    simp only [subA]
    by_cases e : m = n
    · subst e
      rw [if_pos rfl]
      cases B with
      | box T cs => exact .elt m i j g cap sz h
      | row E es =>
        refine .sh (.ptr g _ _ fun k a hk => hopen g (by simp [blkOf, h]) _ a ?_)
        obtain ⟨h0, hb⟩ := hb
        have hsz : sz = szP P E := by
          rcases hb with ⟨cap', h1, _⟩ | ⟨g', cap', h1, _⟩ <;> rw [h] at h1 <;> cases h1 <;> rfl
        rw [List.getElem?_drop] at hk
        have hi : i < es.length := by
          rcases Nat.lt_or_ge i es.length with hlt | hge
          · exact hlt
          · rw [List.getD_eq_getElem?_getD, List.getElem?_eq_none hge] at hk
            simp at hk
        have hgi : es[i]? = some es[i] := List.getElem?_eq_getElem hi
        rw [List.getD_eq_getElem?_getD, hgi] at hk
        show es.flatten[i * sz + j + k]? = some a
        rw [Nat.add_assoc, hsz]
        exact flat_get h0 hgi hk
    · rw [if_neg e]
      exact .elt m i j g cap sz h
  | rw m lo len g cap sz o h hc ho =>
    simp only [subA]
    by_cases e : m = n
    · subst e
      rw [if_pos rfl]
      cases B with
      | box T cs => exact .rw m lo len g cap sz o h hc ho
      | row E es =>
        obtain ⟨h0, hb⟩ := hb
        have hsz : sz = szP P E := by
          rcases hb with ⟨cap', h1, _⟩ | ⟨g', cap', h1, _⟩ <;> rw [h] at h1 <;> cases h1 <;> rfl
        simp only [fixK, subS]
        by_cases hl : lo + len ≤ es.length
        · rw [if_pos hl]
          have hlen : ((es.drop lo).take len).length = len := by simp; omega
          have hfin := RS.sl (G := G') g o sz (cap - lo) ((es.drop lo).take len) (fun e he => hsz ▸ h0 e (List.mem_of_mem_drop (List.mem_of_mem_take he))) (by rw [hlen]; omega) fun i e j a hi hj => by
            have hil : i < len := by rw [← hlen]; exact (List.getElem?_eq_some_iff.1 hi).1
            rw [List.getElem?_take_of_lt hil, List.getElem?_drop] at hi
            have := flat_get h0 hi hj
            refine hopen g (by simp [blkOf, h]) _ a ?_
            show es.flatten[o + i * sz + j]? = some a
            rw [ho (.inl (by omega)), hsz, ← Nat.add_mul]
            exact this
          rw [hlen] at hfin
          exact .sh hfin
        · rw [if_neg hl]
          exact .rw m lo len g cap sz o h hc ho
    · rw [if_neg e]
      exact .rw m lo len g cap sz o h hc ho
  | rw0 m cap sz h =>
    simp only [subA]
    by_cases e : m = n
    · subst e
      rw [if_pos rfl]
      cases B with
      | box T cs => exact .rw0 m cap sz h
      | row E es =>
        simp only [fixK, subS, Nat.add_zero, Nat.zero_le, if_true, List.take_zero]
        exact .sh .nil
    · rw [if_neg e]
      exact .rw0 m cap sz h
  | agg vs cs hl h1 _ ih =>
    refine .agg vs _ (by rw [subL_len]; exact hl) h1 fun j v a hv ha => ?_
    rw [subL_get] at ha
    obtain ⟨b, hb, rfl⟩ := Option.map_eq_some_iff.1 ha
    exact ih j v b hv hb
  | tup vs cs hl _ ih =>
    refine .tup vs _ (by rw [subL_len]; exact hl) fun j v a hv ha => ?_
    rw [subL_get] at ha
    obtain ⟨b, hb, rfl⟩ := Option.map_eq_some_iff.1 ha
    exact ih j v b hv hb
  | ifc t v a _ ih => exact .ifc t v _ ih
  | fnc f vs cs hl h _ => exact .fnc f vs cs hl fun j v a e1 e2 => (h j v a e1 e2).mono hle (.refl _)
theorem Inv.frz (h : Inv P N C G ν w tm st) {n : Nat} {B : Blk} (hn : (st.blk n).isSome = true) (hb : BlkR P G ν w n B) (hp : pureK B = true) : ∃ G', Inv P N C G' ν w tm (st.setB n none) ∧ Gle G G' ∧ (∀ v a, RN G ν v a → RN G' ν v (subA n (fixK B) a)) ∧ ∀ g, blkOf ν n ≠ some g → G' g = G g := by
  cases hbo : blkOf ν n with
  | none =>
    exact ⟨G, h.drop n, .refl _, fun v a hv => hv.sub (.refl _) hb (fun g hg => by rw [hbo] at hg; cases hg), fun _ _ => rfl⟩
  | some g =>
    have hle : Gle G (gset G g (openG (fixK B))) := gset_le _ _ _
    have hlt := hb.lt hbo
    have hopen : ∀ g', blkOf ν n = some g' → ∀ j a, openG (fixK B) j = some a → gset G g (openG (fixK B)) g' j a := fun g' hg' j a hj => by
      rw [hbo] at hg'
      cases hg'
      exact .inr ⟨rfl, hj⟩
    have hd := h.drop n
    refine ⟨gset G g (openG (fixK B)), ⟨hd.size, ⟨fun g' i a hga => ?_, h.cells.gl.mono hle⟩, fun t => (hd.vals t).mono hle (.refl _), fun m B' hB' => ?_, hd.inj, hd.news, hd.own, ?_, hd.kpt⟩, hle, fun v a hv => hv.sub hle hb hopen, fun g' hg' => gset_ne _ _ (fun e => hg' (by rw [e]))⟩
    · by_cases e : g' = g
      · subst e
        rw [gset_fresh hlt.2] at hga
        cases B with
        | box T cs =>
          obtain ⟨g2, cap, sz, h1, h2, vs, h3, h4, h5⟩ := hb
          have : g2 = g' := by simpa [blkOf, h1] using hbo
          subst this
          have hga : (fixL cs)[i]? = some a := hga
          rw [fixL_get] at hga
          obtain ⟨b, hb, rfl⟩ := Option.map_eq_some_iff.1 hga
          have hi : i < vs.size := by rw [h4]; exact (List.getElem?_eq_some_iff.1 hb).1
          obtain ⟨q1, q2⟩ := h5 i _ b (Array.getElem?_eq_getElem hi) hb
          exact ⟨_, by rw [cell_of_row _ _ _ _ _ _ h3]; exact Array.getElem?_eq_getElem hi, q1, (q2.toRS (pureL_get hp hb)).mono hle⟩
        | row E es =>
          obtain ⟨h0, hb⟩ := hb
          rcases hb with ⟨cap', h1, _⟩ | ⟨g2, cap, h1, h2, h3, h4, vs, h5, h6, h7⟩
          · simp [blkOf, h1] at hbo
          · have : g2 = g' := by simpa [blkOf, h1] using hbo
            subst this
            have hga : es.flatten[i]? = some a := hga
            have hi : i < vs.size := by
              have := (List.getElem?_eq_some_iff.1 hga).1
              rw [flat_len h0] at this
              rw [h6]
              exact Nat.lt_of_lt_of_le this (Nat.mul_le_mul_right _ h3)
            obtain ⟨q1, q2⟩ := h7 i _ a (Array.getElem?_eq_getElem hi) hga
            exact ⟨_, by rw [cell_of_row _ _ _ _ _ _ h5]; exact Array.getElem?_eq_getElem hi, q1, q2.mono hle⟩
      · rw [gset_ne _ _ e] at hga
        obtain ⟨v, h1, h2, h3⟩ := h.cells g' i a hga
        exact ⟨v, h1, h2, h3.mono hle⟩
    · have hm : m ≠ n ∧ st.blk m = some B' := by
        simp only [St.setB] at hB'
        split at hB'
        · cases hB'
        · next e => exact ⟨e, hB'⟩
      refine (h.blks m B' hm.2).keep hle (.refl _) fun g' hg' => ⟨rfl, gset_ne _ _ ?_⟩
      rintro rfl
      exact hm.1 (h.inj m n g' (by rw [hm.2]; rfl) hn hg' hbo)
    · refine ⟨h.fr.os, h.fr.tape, h.fr.output, h.fr.size, h.fr.le.trans hle, fun g' k1 k2 => ⟨(h.fr.old g' k1 k2).1, ?_⟩⟩
      rw [gset_ne _ _ ?_]
      · exact (h.fr.old g' k1 k2).2
      · rintro rfl
        rcases h.own n g' hn hbo with h | h
        · omega
        · exact k2 h
def opnB (n : Nat) (B : Blk) (blk : Nat → Option Blk) : Nat → Option Blk := fun m => if m = n then none else (blk m).map (subK n B)
def frzF (blk : Nat → Option Blk) : List Nat → AV → AV
  | [], a => a
  | n :: ns, a => match blk n with
    | some B => frzF (opnB n (fixK B) blk) ns (subA n (fixK B) a)
    | none => .dead
def frzOk (blk : Nat → Option Blk) : List Nat → Prop
  | [] => True
  | n :: ns => match blk n with
    | some B => pureK B = true ∧ frzOk (opnB n (fixK B) blk) ns
    | none => False
theorem BlkR.sub {n m : Nat} {B B' : Blk} {G' : Gh} (hle : Gle G G') (hs : ∀ v a, RN G ν v a → RN G' ν v (subA n (fixK B) a)) (hg : ∀ g, blkOf ν m = some g → G' g = G g) (h : BlkR P G ν w m B') : BlkR P G' ν w m (subK n (fixK B) B') := by
  cases B' with
  | box T cs =>
    obtain ⟨g, cap, sz, h1, h2, vs, h3, h4, h5⟩ := h
    refine ⟨g, cap, sz, h1, fun i a => by rw [hg g (by simp [blkOf, h1])]; exact h2 i a, vs, h3, by rw [subL_len]; exact h4, fun j v a e1 e2 => ?_⟩
    rw [subL_get] at e2
    obtain ⟨b, hb, rfl⟩ := Option.map_eq_some_iff.1 e2
    exact ⟨(h5 j v b e1 hb).1, hs _ _ (h5 j v b e1 hb).2⟩
  | row E es => exact h.keep hle (.refl _) fun g hgm => ⟨rfl, hg g hgm⟩
theorem Inv.frzN : ∀ (ns : List Nat) (blk : Nat → Option Blk) {G : Gh} {st : St}, Inv P N C G ν w tm st → (∀ m B, blk m = some B → BlkR P G ν w m B ∧ (st.blk m).isSome = true) → frzOk blk ns →
    ∃ G', Inv P N C G' ν w tm (st.drops ns) ∧ Gle G G' ∧ ∀ v a, RN G ν v a → RN G' ν v (frzF blk ns a)
  | [], blk, G, st, h, _, _ => ⟨G, h, .refl _, fun _ _ h => h⟩
  | n :: ns, blk, G, st, h, hb, hok => by
    unfold frzOk at hok
    cases hB : blk n with
    | none => rw [hB] at hok; exact hok.elim
    | some B =>
      rw [hB] at hok
      obtain ⟨hp, hok⟩ := hok
      obtain ⟨hbn, hsn⟩ := hb n B hB
      obtain ⟨G1, h1, h2, h3, h4⟩ := h.frz hsn hbn hp
      obtain ⟨G2, k1, k2, k3⟩ := Inv.frzN ns (opnB n (fixK B) blk) h1 (fun m B' hm => by
        unfold opnB at hm
        by_cases e : m = n
        · rw [if_pos e] at hm; cases hm
        · rw [if_neg e] at hm
          obtain ⟨B0, hB0, rfl⟩ := Option.map_eq_some_iff.1 hm
          obtain ⟨q1, q2⟩ := hb m B0 hB0
          refine ⟨q1.sub h2 h3 fun g hg => h4 g fun e' => e (h.inj m n g q2 hsn hg e'), ?_⟩
          simp only [St.setB, e, if_false]
          exact q2) hok
      refine ⟨G2, k1, h2.trans k2, fun v a hv => ?_⟩
      simp only [frzF, hB]
      exact k3 _ _ (h3 _ _ hv)
theorem Inv.frzS (h : Inv P N C G ν w tm st) (ns : List Nat) (hok : frzOk st.blk ns) : ∃ G', Inv P N C G' ν w tm (st.drops ns) ∧ Gle G G' ∧ ∀ v a, RN G ν v a → RN G' ν v (frzF st.blk ns a) :=
  Inv.frzN ns st.blk h (fun m B hm => ⟨h.blks m B hm, by rw [hm]; rfl⟩) hok
end
end Go.Proofs.YtldnkeackphilaaGreatDoor.X
