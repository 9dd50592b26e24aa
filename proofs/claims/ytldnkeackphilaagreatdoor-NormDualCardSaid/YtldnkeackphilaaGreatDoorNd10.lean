/- The linear calculus: rules for simp. -/
import Derived.Test.YtldnkeackphilaaGreatDoorNd9
set_option linter.unusedSimpArgs false
set_option linter.unusedVariables false
namespace Go.Proofs.YtldnkeackphilaaGreatDoor.X
open Go.RowKit
@[congr] theorem onO_congr {α : Type} {o o' : Option α} (f : α → Prop) (h : o = o') : onO o f = onO o' f := by rw [h]
@[simp] theorem onO_some {α : Type} (a : α) (f : α → Prop) : onO (some a) f = f a := rfl
@[congr] theorem onB_congr {a a' : AV} (f : Bool → Prop) (h : a = a') : onB a f = onB a' f := by rw [h]
@[simp] theorem onB_bool (b : Bool) (f : Bool → Prop) : onB (.imm (.bool b)) f = f b := rfl
theorem onO_eq {α : Type} {o : Option α} {Q : α → Prop} : (∃ e, o = some e ∧ Q e) = onO o Q := by
  cases o <;> simp [onO]
def nth {α : Type} (d : α) : List α → Nat → α
  | [], _ => d
  | a :: _, 0 => a
  | _ :: l, k + 1 => nth d l k
@[simp] theorem nth_nil {α : Type} (d : α) (k : Nat) : nth d [] k = d := rfl
@[simp] theorem nth_zero {α : Type} (d a : α) (l : List α) : nth d (a :: l) 0 = a := rfl
@[simp] theorem nth_succ {α : Type} (d a : α) (l : List α) (k : Nat) : nth d (a :: l) (k + 1) = nth d l k := rfl
theorem nth_eq {α : Type} (d : α) : ∀ (l : List α) (k : Nat), l.getD k d = nth d l k
  | [], _ => rfl
  | a :: _, 0 => rfl
  | _ :: l, k + 1 => nth_eq d l k
def optN {α : Type} : List α → Nat → Option α
  | [], _ => none
  | a :: _, 0 => some a
  | _ :: l, k + 1 => optN l k
@[simp] theorem optN_zero {α : Type} (a : α) (l : List α) : optN (a :: l) 0 = some a := rfl
@[simp] theorem optN_succ {α : Type} (a : α) (l : List α) (k : Nat) : optN (a :: l) (k + 1) = optN l k := rfl
theorem optN_eq {α : Type} : ∀ (l : List α) (k : Nat), l[k]? = optN l k
  | [], _ => rfl
  | a :: _, 0 => rfl
  | _ :: l, k + 1 => by rw [List.getElem?_cons_succ]; exact optN_eq l k
def memN (n : Nat) : List Nat → Bool
  | [] => false
  | m :: l => n == m || memN n l
theorem memN_eq (n : Nat) : ∀ l : List Nat, l.contains n = memN n l
  | [] => rfl
  | m :: l => by rw [List.contains_cons, memN_eq n l]; rfl
@[simp] theorem memN_nil (n : Nat) : memN n [] = false := rfl
@[simp] theorem memN_cons (n m : Nat) (l : List Nat) : memN n (m :: l) = (n == m || memN n l) := rfl
@[simp] theorem memN_app (n : Nat) (l m : List Nat) : memN n (l ++ m) = (memN n l || memN n m) := by
  induction l with
  | nil => rfl
  | cons a l ih => simp only [List.cons_append, memN, ih, Bool.or_assoc]
@[simp] theorem subset_nil (m : List Nat) : subset [] m = true := rfl
@[simp] theorem subset_cons (n : Nat) (l m : List Nat) : subset (n :: l) m = (memN n m && subset l m) := by simp only [subset, List.all_cons, memN_eq]
def dstA (l : List Oper) : List (Option Nat) := l.map (·.dst)
def dstL (l : List Oper) (_ : Tag l) (j : Nat) : Option Nat := (l.map (·.dst)).getD j none
@[simp] theorem dstL_zero (d : Option Nat) (op : Op) (ty pos aft g) (l : List Oper) (tg) : dstL (⟨d, op, ty, pos, aft, g⟩ :: l) tg 0 = d := rfl
@[simp] theorem dstL_succ (o : Oper) (l : List Oper) (tg) (j : Nat) : dstL (o :: l) tg (j + 1) = dstL l .mk j := rfl
@[simp] theorem unC_imm  (v : Value) : unC' (AV.imm v) = (AV.imm v) := rfl
@[simp] theorem unC_sl  (es : List (List AV)) : unC' (AV.sl es) = (AV.sl es) := rfl
@[simp] theorem unC_ptr  (cs : List AV) : unC' (AV.ptr cs) = (AV.ptr cs) := rfl
@[simp] theorem unC_agg  (cs : List AV) : unC' (AV.agg cs) = (AV.agg cs) := rfl
@[simp] theorem unC_tup  (cs : List AV) : unC' (AV.tup cs) = (AV.tup cs) := rfl
@[simp] theorem unC_ifc  (T' : TypeId) (b : AV) : unC' (AV.ifc T' b) = (AV.ifc T' b) := rfl
@[simp] theorem unC_ref  (n off : Nat) : unC' (AV.ref n off) = (AV.ref n off) := rfl
@[simp] theorem unC_cnd  (y' : Bool) (b : AV) : unC' (AV.cnd y' b) = b := rfl
@[simp] theorem unC_dead   : unC' (AV.dead) = (AV.dead) := rfl
@[simp] theorem unC_elt  (n i j : Nat) : unC' (AV.elt n i j) = (AV.elt n i j) := rfl
@[simp] theorem unC_rw  (n lo len : Nat) : unC' (AV.rw n lo len) = (AV.rw n lo len) := rfl
@[simp] theorem unC_fnc  (g : Nat) (cs : List AV) : unC' (AV.fnc g cs) = (AV.fnc g cs) := rfl
@[simp] theorem okV_imm (y : Bool) (v : Value) : okV y (AV.imm v) = True := rfl
@[simp] theorem okV_sl (y : Bool) (es : List (List AV)) : okV y (AV.sl es) = True := rfl
@[simp] theorem okV_ptr (y : Bool) (cs : List AV) : okV y (AV.ptr cs) = True := rfl
@[simp] theorem okV_agg (y : Bool) (cs : List AV) : okV y (AV.agg cs) = True := rfl
@[simp] theorem okV_tup (y : Bool) (cs : List AV) : okV y (AV.tup cs) = True := rfl
@[simp] theorem okV_ifc (y : Bool) (T' : TypeId) (b : AV) : okV y (AV.ifc T' b) = True := rfl
@[simp] theorem okV_ref (y : Bool) (n off : Nat) : okV y (AV.ref n off) = True := rfl
@[simp] theorem okV_cnd (y : Bool) (y' : Bool) (b : AV) : okV y (AV.cnd y' b) = (y = true → y' = true) := rfl
@[simp] theorem okV_dead (y : Bool)  : okV y (AV.dead) = False := rfl
@[simp] theorem okV_elt (y : Bool) (n i j : Nat) : okV y (AV.elt n i j) = True := rfl
@[simp] theorem okV_rw (y : Bool) (n lo len : Nat) : okV y (AV.rw n lo len) = True := rfl
@[simp] theorem okV_fnc (y : Bool) (g : Nat) (cs : List AV) : okV y (AV.fnc g cs) = True := rfl
@[simp] theorem trimA_imm  (v : Value) : trimA (AV.imm v) = (AV.imm v) := rfl
@[simp] theorem trimA_sl  (es : List (List AV)) : trimA (AV.sl es) = (AV.sl es) := rfl
@[simp] theorem trimA_ptr  (cs : List AV) : trimA (AV.ptr cs) = (AV.ptr cs) := rfl
@[simp] theorem trimA_box  (T' : TypeId) (cs : List AV) : trimA (AV.box T' cs) = (AV.box T' cs) := rfl
@[simp] theorem trimA_agg  (cs : List AV) : trimA (AV.agg cs) = (AV.agg cs) := rfl
@[simp] theorem trimA_tup  (cs : List AV) : trimA (AV.tup cs) = (AV.tup cs) := rfl
@[simp] theorem trimA_ifc  (T' : TypeId) (b : AV) : trimA (AV.ifc T' b) = (AV.ifc T' b) := rfl
@[simp] theorem trimA_ref  (n off : Nat) : trimA (AV.ref n off) = (AV.ref n off) := rfl
@[simp] theorem trimA_cnd  (y' : Bool) (b : AV) : trimA (AV.cnd y' b) = .dead := rfl
@[simp] theorem trimA_dead   : trimA (AV.dead) = (AV.dead) := rfl
@[simp] theorem trimA_nl   : trimA (AV.nl) = (AV.nl) := rfl
@[simp] theorem trimA_elt  (n i j : Nat) : trimA (AV.elt n i j) = (AV.elt n i j) := rfl
@[simp] theorem trimA_rw  (n lo len : Nat) : trimA (AV.rw n lo len) = (AV.rw n lo len) := rfl
@[simp] theorem trimA_fnc  (g : Nat) (cs : List AV) : trimA (AV.fnc g cs) = (AV.fnc g cs) := rfl
@[simp] theorem pureA_imm  (v : Value) : pureA (AV.imm v) = true := (by first | rfl | simp only [pureA])
@[simp] theorem pureA_sl  (es : List (List AV)) : pureA (AV.sl es) = true := (by first | rfl | simp only [pureA])
@[simp] theorem pureA_ptr  (cs : List AV) : pureA (AV.ptr cs) = true := (by first | rfl | simp only [pureA])
@[simp] theorem pureA_agg  (cs : List AV) : pureA (AV.agg cs) = pureL cs := (by first | rfl | simp only [pureA])
@[simp] theorem pureA_ifc  (T' : TypeId) (b : AV) : pureA (AV.ifc T' b) = pureA b := (by first | rfl | simp only [pureA])
@[simp] theorem pureA_ref  (n off : Nat) : pureA (AV.ref n off) = false := (by first | rfl | simp only [pureA])
@[simp] theorem pureA_dead   : pureA (AV.dead) = false := (by first | rfl | simp only [pureA])
@[simp] theorem pureA_nl   : pureA (AV.nl) = true := (by first | rfl | simp only [pureA])
@[simp] theorem fixA_imm  (v : Value) : fixA (AV.imm v) = (AV.imm v) := (by first | rfl | simp only [fixA])
@[simp] theorem fixA_sl  (es : List (List AV)) : fixA (AV.sl es) = (AV.sl es) := (by first | rfl | simp only [fixA])
@[simp] theorem fixA_ptr  (cs : List AV) : fixA (AV.ptr cs) = (AV.ptr cs) := (by first | rfl | simp only [fixA])
@[simp] theorem fixA_box  (T' : TypeId) (cs : List AV) : fixA (AV.box T' cs) = (AV.box T' cs) := (by first | rfl | simp only [fixA])
@[simp] theorem fixA_agg  (cs : List AV) : fixA (AV.agg cs) = .agg (fixL cs) := (by first | rfl | simp only [fixA])
@[simp] theorem fixA_tup  (cs : List AV) : fixA (AV.tup cs) = .tup (fixL cs) := (by first | rfl | simp only [fixA])
@[simp] theorem fixA_ifc  (T' : TypeId) (b : AV) : fixA (AV.ifc T' b) = .ifc T' (fixA b) := (by first | rfl | simp only [fixA])
@[simp] theorem fixA_ref  (n off : Nat) : fixA (AV.ref n off) = (AV.ref n off) := (by first | rfl | simp only [fixA])
@[simp] theorem fixA_dead   : fixA (AV.dead) = (AV.dead) := (by first | rfl | simp only [fixA])
@[simp] theorem fixA_nl   : fixA (AV.nl) = .sl [] := (by first | rfl | simp only [fixA])
@[simp] theorem fixA_elt  (n i j : Nat) : fixA (AV.elt n i j) = (AV.elt n i j) := (by first | rfl | simp only [fixA])
@[simp] theorem fixA_rw  (n lo len : Nat) : fixA (AV.rw n lo len) = (AV.rw n lo len) := (by first | rfl | simp only [fixA])
@[simp] theorem fixA_fnc  (g : Nat) (cs : List AV) : fixA (AV.fnc g cs) = (AV.fnc g cs) := (by first | rfl | simp only [fixA])
@[simp] theorem refsA_imm  (v : Value) : refsA (AV.imm v) = [] := (by first | rfl | simp only [refsA])
@[simp] theorem refsA_sl  (es : List (List AV)) : refsA (AV.sl es) = [] := (by first | rfl | simp only [refsA])
@[simp] theorem refsA_ptr  (cs : List AV) : refsA (AV.ptr cs) = [] := (by first | rfl | simp only [refsA])
@[simp] theorem refsA_box  (T' : TypeId) (cs : List AV) : refsA (AV.box T' cs) = [] := (by first | rfl | simp only [refsA])
@[simp] theorem refsA_agg  (cs : List AV) : refsA (AV.agg cs) = refsL cs := (by first | rfl | simp only [refsA])
@[simp] theorem refsA_tup  (cs : List AV) : refsA (AV.tup cs) = refsL cs := (by first | rfl | simp only [refsA])
@[simp] theorem refsA_ifc  (T' : TypeId) (b : AV) : refsA (AV.ifc T' b) = refsA b := (by first | rfl | simp only [refsA])
@[simp] theorem refsA_ref  (n off : Nat) : refsA (AV.ref n off) = [n] := (by first | rfl | simp only [refsA])
@[simp] theorem refsA_cnd  (y' : Bool) (b : AV) : refsA (AV.cnd y' b) = refsA b := (by first | rfl | simp only [refsA])
@[simp] theorem refsA_dead   : refsA (AV.dead) = [] := (by first | rfl | simp only [refsA])
@[simp] theorem refsA_nl   : refsA (AV.nl) = [] := (by first | rfl | simp only [refsA])
@[simp] theorem refsA_elt  (n i j : Nat) : refsA (AV.elt n i j) = [n] := (by first | rfl | simp only [refsA])
@[simp] theorem refsA_rw  (n lo len : Nat) : refsA (AV.rw n lo len) = [n] := (by first | rfl | simp only [refsA])
@[simp] theorem refsA_fnc  (g : Nat) (cs : List AV) : refsA (AV.fnc g cs) = refsL cs := (by first | rfl | simp only [refsA])
@[simp] theorem renA_imm (σ : Nat → Nat) (v : Value) : renA σ (AV.imm v) = (AV.imm v) := (by first | rfl | simp only [renA])
@[simp] theorem renA_sl (σ : Nat → Nat) (es : List (List AV)) : renA σ (AV.sl es) = (AV.sl es) := (by first | rfl | simp only [renA])
@[simp] theorem renA_ptr (σ : Nat → Nat) (cs : List AV) : renA σ (AV.ptr cs) = (AV.ptr cs) := (by first | rfl | simp only [renA])
@[simp] theorem renA_box (σ : Nat → Nat) (T' : TypeId) (cs : List AV) : renA σ (AV.box T' cs) = (AV.box T' cs) := (by first | rfl | simp only [renA])
@[simp] theorem renA_agg (σ : Nat → Nat) (cs : List AV) : renA σ (AV.agg cs) = .agg (renL σ cs) := (by first | rfl | simp only [renA])
@[simp] theorem renA_tup (σ : Nat → Nat) (cs : List AV) : renA σ (AV.tup cs) = .tup (renL σ cs) := (by first | rfl | simp only [renA])
@[simp] theorem renA_ifc (σ : Nat → Nat) (T' : TypeId) (b : AV) : renA σ (AV.ifc T' b) = .ifc T' (renA σ b) := (by first | rfl | simp only [renA])
@[simp] theorem renA_ref (σ : Nat → Nat) (n off : Nat) : renA σ (AV.ref n off) = .ref (σ n) off := (by first | rfl | simp only [renA])
@[simp] theorem renA_dead (σ : Nat → Nat)  : renA σ (AV.dead) = (AV.dead) := (by first | rfl | simp only [renA])
@[simp] theorem renA_nl (σ : Nat → Nat)  : renA σ (AV.nl) = (AV.nl) := (by first | rfl | simp only [renA])
@[simp] theorem renA_elt (σ : Nat → Nat) (n i j : Nat) : renA σ (AV.elt n i j) = .elt (σ n) i j := (by first | rfl | simp only [renA])
@[simp] theorem renA_rw (σ : Nat → Nat) (n lo len : Nat) : renA σ (AV.rw n lo len) = .rw (σ n) lo len := (by first | rfl | simp only [renA])
@[simp] theorem renA_fnc (σ : Nat → Nat) (g : Nat) (cs : List AV) : renA σ (AV.fnc g cs) = .fnc g (renL σ cs) := (by first | rfl | simp only [renA])
@[simp] theorem subA_imm (m : Nat) (B : Blk) (v : Value) : subA m B (AV.imm v) = (AV.imm v) := (by first | rfl | simp only [subA])
@[simp] theorem subA_sl (m : Nat) (B : Blk) (es : List (List AV)) : subA m B (AV.sl es) = (AV.sl es) := (by first | rfl | simp only [subA])
@[simp] theorem subA_ptr (m : Nat) (B : Blk) (cs : List AV) : subA m B (AV.ptr cs) = (AV.ptr cs) := (by first | rfl | simp only [subA])
@[simp] theorem subA_agg (m : Nat) (B : Blk) (cs : List AV) : subA m B (AV.agg cs) = .agg (subL m B cs) := (by first | rfl | simp only [subA])
@[simp] theorem subA_ifc (m : Nat) (B : Blk) (T' : TypeId) (b : AV) : subA m B (AV.ifc T' b) = .ifc T' (subA m B b) := (by first | rfl | simp only [subA])
@[simp] theorem subA_ref (m : Nat) (B : Blk) (n off : Nat) : subA m B (AV.ref n off) = (if n = m then subR off (.ref n off) B else .ref n off) := (by first | rfl | simp only [subA])
@[simp] theorem subA_dead (m : Nat) (B : Blk)  : subA m B (AV.dead) = (AV.dead) := (by first | rfl | simp only [subA])
@[simp] theorem subA_nl (m : Nat) (B : Blk)  : subA m B (AV.nl) = (AV.nl) := (by first | rfl | simp only [subA])
@[simp] theorem subA_rw (m : Nat) (B : Blk) (n lo len : Nat) : subA m B (AV.rw n lo len) = (if n = m then subS lo len (.rw n lo len) B else .rw n lo len) := (by first | rfl | simp only [subA])
@[simp] theorem pureL_nil : pureL [] = true := by simp only [pureL]
@[simp] theorem pureL_cons (a : AV) (l : List AV) : pureL (a :: l) = (pureA a && pureL l) := by simp only [pureL]
@[simp] theorem fixL_nil : fixL [] = [] := by simp only [fixL]
@[simp] theorem fixL_cons (a : AV) (l : List AV) : fixL (a :: l) = fixA a :: fixL l := by simp only [fixL]
@[simp] theorem refsL_nil : refsL [] = [] := by simp only [refsL]
@[simp] theorem refsL_cons (a : AV) (l : List AV) : refsL (a :: l) = refsA a ++ refsL l := by simp only [refsL]
@[simp] theorem renL_nil (σ : Nat → Nat) : renL σ [] = [] := by simp only [renL]
@[simp] theorem renL_cons (σ : Nat → Nat) (a : AV) (l : List AV) : renL σ (a :: l) = renA σ a :: renL σ l := by simp only [renL]
@[simp] theorem subL_nil (n : Nat) (B : Blk) : subL n B [] = [] := by simp only [subL]
@[simp] theorem subL_cons (n : Nat) (B : Blk) (a : AV) (l : List AV) : subL n B (a :: l) = subA n B a :: subL n B l := by simp only [subL]
@[simp] theorem subR_box (off : Nat) (a : AV) (T : TypeId) (cs : List AV) : subR off a (.box T cs) = .ptr (cs.drop off) := rfl
@[simp] theorem subS_row (lo len : Nat) (a : AV) (E : TypeId) (es : List (List AV)) : subS lo len a (.row E es) = if lo + len ≤ es.length then .sl ((es.drop lo).take len) else a := rfl
@[simp] theorem subK_box (n : Nat) (B : Blk) (T : TypeId) (cs : List AV) : subK n B (.box T cs) = .box T (subL n B cs) := rfl
@[simp] theorem subK_row (n : Nat) (B : Blk) (E : TypeId) (es : List (List AV)) : subK n B (.row E es) = .row E es := rfl
@[simp] theorem fixK_box (T : TypeId) (cs : List AV) : fixK (.box T cs) = .box T (fixL cs) := rfl
@[simp] theorem fixK_row (E : TypeId) (es : List (List AV)) : fixK (.row E es) = .row E es := rfl
@[simp] theorem pureK_box (T : TypeId) (cs : List AV) : pureK (.box T cs) = pureL cs := rfl
@[simp] theorem pureK_row (E : TypeId) (es : List (List AV)) : pureK (.row E es) = true := rfl
@[simp] theorem renK_box (σ : Nat → Nat) (T : TypeId) (cs : List AV) : renK σ (.box T cs) = .box T (renL σ cs) := rfl
@[simp] theorem renK_row (σ : Nat → Nat) (E : TypeId) (es : List (List AV)) : renK σ (.row E es) = .row E es := rfl
@[simp] theorem refsK_box (T : TypeId) (cs : List AV) : refsK (.box T cs) = refsL cs := rfl
@[simp] theorem refsK_row (E : TypeId) (es : List (List AV)) : refsK (.row E es) = [] := rfl
@[simp] theorem opnB_app (n : Nat) (B : Blk) (blk : Nat → Option Blk) (m : Nat) : opnB n B blk m = if m = n then none else (blk m).map (subK n B) := rfl
def frzG (blk : Nat → Option Blk) (ns : List Nat) (n : Nat) (a : AV) : Option Blk → AV
  | some B => frzF (opnB n (fixK B) blk) ns (subA n (fixK B) a)
  | none => .dead
@[simp] theorem frzG_some (blk : Nat → Option Blk) (ns : List Nat) (n : Nat) (a : AV) (B : Blk) : frzG blk ns n a (some B) = frzF (opnB n (fixK B) blk) ns (subA n (fixK B) a) := rfl
@[simp] theorem frzF_nil (blk : Nat → Option Blk) (a : AV) : frzF blk [] a = a := rfl
@[simp] theorem frzF_cons (blk : Nat → Option Blk) (n : Nat) (ns : List Nat) (a : AV) : frzF blk (n :: ns) a = frzG blk ns n a (blk n) := by
  simp only [frzF]; cases blk n <;> rfl
def frzOkG (blk : Nat → Option Blk) (ns : List Nat) (n : Nat) : Option Blk → Prop
  | some B => pureK B = true ∧ frzOk (opnB n (fixK B) blk) ns
  | none => False
@[simp] theorem frzOkG_some (blk : Nat → Option Blk) (ns : List Nat) (n : Nat) (B : Blk) : frzOkG blk ns n (some B) = (pureK B = true ∧ frzOk (opnB n (fixK B) blk) ns) := rfl
@[simp] theorem frzOk_nil (blk : Nat → Option Blk) : frzOk blk [] = True := rfl
@[simp] theorem frzOk_cons (blk : Nat → Option Blk) (n : Nat) (ns : List Nat) : frzOk blk (n :: ns) = frzOkG blk ns n (blk n) := by
  simp only [frzOk]; cases blk n <;> rfl
@[simp] theorem frzM_nil (blk : Nat → Option Blk) (ns : List Nat) : frzM blk ns [] = [] := rfl
@[simp] theorem frzM_cons (blk : Nat → Option Blk) (ns : List Nat) (a : AV) (l : List AV) : frzM blk ns (a :: l) = frzF blk ns a :: frzM blk ns l := rfl
@[simp] theorem prV_nil (blk : Nat → Option Blk) (ns : List Nat) : prV blk ns [] = [] := rfl
@[simp] theorem prV_cons (blk : Nat → Option Blk) (ns : List Nat) (a : AV) (l : List AV) : prV blk ns (a :: l) = (fixA (frzF blk ns a)).cells :: prV blk ns l := rfl
@[simp] theorem prC_nil (blk : Nat → Option Blk) (ns : List Nat) (sz : Nat) : prC blk ns sz [] = True := rfl
@[simp] theorem prC_cons (blk : Nat → Option Blk) (ns : List Nat) (sz : Nat) (a : AV) (l : List AV) : prC blk ns sz (a :: l) = ((a.whole = true ∧ pureA (frzF blk ns a) = true ∧ (fixA (frzF blk ns a)).cells.length = sz) ∧ prC blk ns sz l) := rfl
def rchG (k : Nat) (blk : Nat → Option Blk) (acc : List Nat) (n : Nat) : Option Blk → List Nat
  | some B => reach k blk acc (refsK B) ++ [n]
  | none => acc
@[simp] theorem rchG_some (k : Nat) (blk : Nat → Option Blk) (acc : List Nat) (n : Nat) (B : Blk) : rchG k blk acc n (some B) = reach k blk acc (refsK B) ++ [n] := rfl
@[simp] theorem reach_nil (k : Nat) (blk : Nat → Option Blk) (acc : List Nat) : reach (k + 1) blk acc [] = acc := rfl
@[simp] theorem reach_cons (k : Nat) (blk : Nat → Option Blk) (acc : List Nat) (n : Nat) (l : List Nat) : reach (k + 1) blk acc (n :: l) = reach k blk (if memN n acc = true then acc else rchG k blk acc n (blk n)) l := by
  simp only [reach, memN_eq]
  cases blk n <;> rfl
@[simp] theorem rch_eq (blk : Nat → Option Blk) (l : List Nat) : rch blk l = reach 40 blk [] l := rfl
@[simp] theorem getL_nil (st : St) : getL st [] = [] := rfl
@[simp] theorem getL_cons (st : St) (x : Operand) (l : List Operand) : getL st (x :: l) = st.get x :: getL st l := rfl
@[simp] theorem okL_nil (st : St) (y : Bool) : okL st y [] = True := rfl
@[simp] theorem okL_cons (st : St) (y : Bool) (x : Operand) (l : List Operand) : okL st y (x :: l) = (st.ok y x ∧ okL st y l) := rfl
theorem okL_iff (st : St) (y : Bool) : ∀ l : List Operand, okL st y l = ∀ x ∈ l, st.ok y x
  | [] => by simp [okL]
  | x :: l => by simp [okL, okL_iff st y l]
@[simp] theorem sndL_nil : sndL [] = [] := rfl
@[simp] theorem sndL_cons (i : Nat) (x : Operand) (l : List (Nat × Operand)) : sndL ((i, x) :: l) = x :: sndL l := rfl
@[simp] theorem get_tmp (st : St) (t : Nat) : st.get (.tmp t) = unC' (st.val t) := rfl
@[simp] theorem ok_tmp (st : St) (y : Bool) (t : Nat) : st.ok y (.tmp t) = okV y (st.val t) := rfl
@[simp] theorem get_func (st : St) (g : FuncId) : st.get (.func g) = .imm (.func (.func g) #[] #[]) := rfl
@[simp] theorem ok_func (st : St) (y : Bool) (g : FuncId) : st.ok y (.func g) = True := rfl
@[simp] theorem get_bool (st : St) (b : Bool) : st.get (.const (.bool b)) = .imm (.bool b) := rfl
@[simp] theorem ok_bool (st : St) (y : Bool) (b : Bool) : st.ok y (.const (.bool b)) = True := eq_true (.inl rfl)
@[simp] theorem cx_bool (b : Bool) : constX (.bool b) = .imm (.bool b) := rfl
@[simp] theorem one_bool (b : Bool) : Value.oneCell' (.bool b) = true := rfl
@[simp] theorem get_int (st : St) (k : IntKind) (n : Int) : st.get (.const (.int k n)) = .imm (.int k n) := rfl
@[simp] theorem ok_int (st : St) (y : Bool) (k : IntKind) (n : Int) : st.ok y (.const (.int k n)) = True := eq_true (.inl rfl)
@[simp] theorem cx_int (k : IntKind) (n : Int) : constX (.int k n) = .imm (.int k n) := rfl
@[simp] theorem one_int (k : IntKind) (n : Int) : Value.oneCell' (.int k n) = true := rfl
@[simp] theorem get_string (st : St) (s : ByteArray) : st.get (.const (.string s)) = .imm (.string s) := rfl
@[simp] theorem ok_string (st : St) (y : Bool) (s : ByteArray) : st.ok y (.const (.string s)) = True := eq_true (.inl rfl)
@[simp] theorem cx_string (s : ByteArray) : constX (.string s) = .imm (.string s) := rfl
@[simp] theorem one_string (s : ByteArray) : Value.oneCell' (.string s) = true := rfl
@[simp] theorem get_ptr (st : St)  : st.get (.const (.pointer none)) = .imm (.pointer none) := rfl
@[simp] theorem ok_ptr (st : St) (y : Bool)  : st.ok y (.const (.pointer none)) = True := eq_true (.inl rfl)
@[simp] theorem cx_ptr  : constX (.pointer none) = .imm (.pointer none) := rfl
@[simp] theorem one_ptr  : Value.oneCell' (.pointer none) = true := rfl
@[simp] theorem cx_nilFunc  : constX (.nilFunc) = .imm (.nilFunc) := rfl
@[simp] theorem one_nilFunc  : Value.oneCell' (.nilFunc) = true := rfl
@[simp] theorem get_nilIface (st : St)  : st.get (.const (.nilIface)) = .imm (.nilIface) := rfl
@[simp] theorem ok_nilIface (st : St) (y : Bool)  : st.ok y (.const (.nilIface)) = True := eq_true (.inl rfl)
@[simp] theorem cx_nilIface  : constX (.nilIface) = .imm (.nilIface) := rfl
@[simp] theorem one_nilIface  : Value.oneCell' (.nilIface) = true := rfl
@[simp] theorem cx_map  : constX (.map none) = .imm (.map none) := rfl
@[simp] theorem one_map  : Value.oneCell' (.map none) = true := rfl
@[simp] theorem cx_float (k : FloatKind) (n : Nat) : constX (.float k n) = .imm (.float k n) := rfl
@[simp] theorem one_float (k : FloatKind) (n : Nat) : Value.oneCell' (.float k n) = true := rfl
@[simp] theorem get_nil (st : St) : st.get (.const (.slice none 0 0)) = .nl := rfl
@[simp] theorem ok_nil (st : St) (y : Bool) : st.ok y (.const (.slice none 0 0)) = True := eq_true (.inl rfl)
@[simp] theorem cx_nil : constX (.slice none 0 0) = .nl := rfl
@[simp] theorem one_nil : Value.oneCell' (.slice none 0 0) = true := rfl
def cxL : List Value → List AV
  | [] => []
  | v :: l => constX v :: cxL l
theorem cxL_eq (l : List Value) : l.map constX = cxL l := by
  induction l with
  | nil => rfl
  | cons v l ih => simp [cxL, ih]
def oneL : List Value → Bool
  | [] => true
  | v :: l => v.oneCell' && oneL l
theorem oneL_eq (l : List Value) : l.all (·.oneCell') = oneL l := by
  induction l with
  | nil => rfl
  | cons v l ih => simp [oneL, ih]
@[simp] theorem cxL_nil : cxL [] = [] := rfl
@[simp] theorem cxL_cons (v : Value) (l : List Value) : cxL (v :: l) = constX v :: cxL l := rfl
@[simp] theorem oneL_nil : oneL [] = true := rfl
@[simp] theorem oneL_cons (v : Value) (l : List Value) : oneL (v :: l) = (v.oneCell' && oneL l) := rfl
def zbV : Option Value → Option (List AV)
  | some z => if z.cells.all (·.oneCell') then some (z.cells.toList.map constX) else none
  | none => none
@[simp] theorem zbx_eq (P : Program) (T : TypeId) : zbx P T = zbV (zeroP P T) := by
  unfold zbx zbV; cases zeroP P T <;> rfl
@[simp] theorem zbV_agg (l : List Value) : zbV (some (.agg (List.toArray l))) = if oneL l then some (cxL l) else none := by
  simp only [zbV, Value.cells, cxL_eq, ← oneL_eq]
  simp
def zrV : Option Value → Option AV
  | some z => if z.oneCell' then some (constX z) else match z with
    | .agg vs => if vs.all (·.oneCell') then some (.agg (vs.toList.map constX)) else none
    | _ => none
  | none => none
@[simp] theorem zro_eq (P : Program) (T : TypeId) : zroP P T = zrV (zeroP P T) := by
  unfold zroP zrV; cases zeroP P T <;> rfl
@[simp] theorem zbV_int (k : IntKind) (n : Int) : zbV (some (.int k n)) = some [.imm (.int k n)] := by simp [zbV, Value.cells]
@[simp] theorem zbV_ptr  : zbV (some (.pointer none)) = some [.imm (.pointer none)] := by simp [zbV, Value.cells]
@[simp] theorem zrV_ptr  : zrV (some (.pointer none)) = some (.imm (.pointer none)) := rfl
@[simp] theorem whole_imm  (v : Value) : AV.whole (AV.imm v) = true := rfl
@[simp] theorem whole_sl  (es : List (List AV)) : AV.whole (AV.sl es) = true := rfl
@[simp] theorem whole_agg  (cs : List AV) : AV.whole (AV.agg cs) = true := rfl
@[simp] theorem whole_nl   : AV.whole (AV.nl) = true := rfl
@[simp] theorem whole_rw  (n lo len : Nat) : AV.whole (AV.rw n lo len) = true := rfl
@[simp] theorem cells_imm  (v : Value) : AV.cells (AV.imm v) = [(AV.imm v)] := rfl
@[simp] theorem cells_sl  (es : List (List AV)) : AV.cells (AV.sl es) = [(AV.sl es)] := rfl
@[simp] theorem cells_agg  (cs : List AV) : AV.cells (AV.agg cs) = cs := rfl
@[simp] theorem cells_nl   : AV.cells (AV.nl) = [(AV.nl)] := rfl
@[simp] theorem cells_rw  (n lo len : Nat) : AV.cells (AV.rw n lo len) = [(AV.rw n lo len)] := rfl
@[simp] theorem shared_imm  (v : Value) : AV.shared (AV.imm v) = true := rfl
@[simp] theorem shared_sl  (es : List (List AV)) : AV.shared (AV.sl es) = true := rfl
@[simp] theorem shared_agg  (cs : List AV) : AV.shared (AV.agg cs) = true := rfl
@[simp] theorem shared_tup  (cs : List AV) : AV.shared (AV.tup cs) = true := rfl
@[simp] theorem shared_ifc  (T' : TypeId) (b : AV) : AV.shared (AV.ifc T' b) = true := rfl
@[simp] theorem final_sl  (es : List (List AV)) : AV.final (AV.sl es) = true := rfl
@[simp] theorem final_agg  (cs : List AV) : AV.final (AV.agg cs) = true := rfl
@[simp] theorem adrC_imm  (v : Value) : adrC (AV.imm v) = False := rfl
@[simp] theorem adrC_ptr  (cs : List AV) : adrC (AV.ptr cs) = True := rfl
@[simp] theorem adrC_ref  (n off : Nat) : adrC (AV.ref n off) = True := rfl
@[simp] theorem adrC_dead   : adrC (AV.dead) = False := rfl
@[simp] theorem at_ptr (st : St) (cs : List AV) : St.at st (AV.ptr cs) = cs := rfl
@[simp] theorem at_ref (st : St) (n off : Nat) : St.at st (AV.ref n off) = atB off (st.blk n) := rfl
@[simp] theorem at_elt (st : St) (n i j : Nat) : St.at st (AV.elt n i j) = atE i j (st.blk n) := rfl
@[simp] theorem atC_ptr (st : St) (y : Bool) (cs : List AV) : St.atC st y (AV.ptr cs) = True := rfl
@[simp] theorem atC_ref (st : St) (y : Bool) (n off : Nat) : St.atC st y (AV.ref n off) = atBC (st.blk n) := rfl
@[simp] theorem atC_elt (st : St) (y : Bool) (n i j : Nat) : St.atC st y (AV.elt n i j) = atEC y i (st.blk n) := rfl
@[simp] theorem isInt_dead   : isIntA (AV.dead) = False := rfl
@[simp] theorem isInt_int (k : IntKind) (n : Int) : isIntA (.imm (.int k n)) = True := rfl
@[simp] theorem intOf_int (k : IntKind) (n : Int) : intOfA (.imm (.int k n)) = n := rfl
@[simp] theorem atB_box (off : Nat) (T : TypeId) (cs : List AV) : atB off (some (.box T cs)) = cs.drop off := rfl
@[simp] theorem atE_row (i j : Nat) (E : TypeId) (es : List (List AV)) : atE i j (some (.row E es)) = (es.getD i []).drop j := rfl
@[simp] theorem atBC_box (T : TypeId) (cs : List AV) : atBC (some (.box T cs)) = True := rfl
@[simp] theorem atEC_row (y : Bool) (i : Nat) (E : TypeId) (es : List (List AV)) : atEC y i (some (.row E es)) = (y = true → i < es.length) := rfl
@[simp] theorem bound_none (st : St) (d : Nat) : boundA st none d = d := rfl
@[simp] theorem bound_some (st : St) (x : Operand) (d : Nat) : boundA st (some x) d = (intOfA (st.get x)).toNat := rfl
@[simp] theorem boundC_none (st : St) (y : Bool) (hi : Nat) : boundC st y none hi = True := rfl
@[simp] theorem boundC_some (st : St) (y : Bool) (x : Operand) (hi : Nat) : boundC st y (some x) hi = (st.ok y x ∧ isIntA (st.get x) ∧ 0 ≤ intOfA (st.get x) ∧ intOfA (st.get x) ≤ hi) := rfl
@[simp] theorem fillA_nil (st : St) (pl : List (Nat × Nat)) (cs : List AV) : fillA st pl cs [] = cs := rfl
@[simp] theorem fillA_cons (st : St) (pl : List (Nat × Nat)) (cs : List AV) (i : Nat) (x : Operand) (l : List (Nat × Operand)) : fillA st pl cs ((i, x) :: l) = fillA st pl (spliceL cs (plcO (optN pl i)) (st.get x).cells) l := by rw [← optN_eq]; rfl
@[simp] theorem fillC_nil (st : St) (y : Bool) (pl : List (Nat × Nat)) (n : Nat) : fillC st y pl n [] = True := rfl
@[simp] theorem fillC_cons (st : St) (y : Bool) (pl : List (Nat × Nat)) (n i : Nat) (x : Operand) (l : List (Nat × Operand)) : fillC st y pl n ((i, x) :: l) = (st.ok y x ∧ (st.get x).whole = true ∧ plcC (optN pl i) (st.get x).cells.length n ∧ fillC st y pl n l) := by rw [← optN_eq]; rfl
@[simp] theorem plcO_some (o s : Nat) : plcO (some (o, s)) = o := rfl
@[simp] theorem plcC_some (o s k n : Nat) : plcC (some (o, s)) k n = (k = s ∧ o + k ≤ n) := rfl
@[simp] theorem pickA_b (c p q : Bool) : pickA (.imm (.bool c)) (.imm (.bool p)) (.imm (.bool q)) = .imm (.bool (if c then p else q)) := rfl
@[simp] theorem pickC_b (st : St) (y : Bool) (a b : Operand) (c p q : Bool) : pickC st y a b (.imm (.bool c)) (.imm (.bool p)) (.imm (.bool q)) = (st.ok (y && c) a ∧ st.ok (y && !c) b) := rfl
@[simp] theorem pickA_t (p : Bool) : pickA (.imm (.bool true)) (.imm (.bool p)) .dead = .imm (.bool p) := rfl
@[simp] theorem pickA_f (q : Bool) : pickA (.imm (.bool false)) .dead (.imm (.bool q)) = .imm (.bool q) := rfl
@[simp] theorem pickC_t (st : St) (y : Bool) (a b : Operand) (p : Bool) : pickC st y a b (.imm (.bool true)) (.imm (.bool p)) .dead = st.ok y a := rfl
@[simp] theorem pickA_td (q : Bool) : pickA (.imm (.bool true)) .dead (.imm (.bool q)) = .dead := rfl
@[simp] theorem pickA_fd (q : Bool) : pickA (.imm (.bool false)) (.imm (.bool q)) .dead = .dead := rfl
@[simp] theorem pickC_td (st : St) (y : Bool) (a b : Operand) (q : Bool) : pickC st y a b (.imm (.bool true)) .dead (.imm (.bool q)) = (y = false) := rfl
@[simp] theorem pickC_fd (st : St) (y : Bool) (a b : Operand) (q : Bool) : pickC st y a b (.imm (.bool false)) (.imm (.bool q)) .dead = (y = false) := rfl
@[simp] theorem pickC_f (st : St) (y : Bool) (a b : Operand) (q : Bool) : pickC st y a b (.imm (.bool false)) .dead (.imm (.bool q)) = st.ok y b := rfl
@[simp] theorem fadA_ref (o : Nat) (T : TypeId) (n off : Nat) : fadA (some (o, T)) (.ref n off) = .ref n (off + o) := rfl
@[simp] theorem fadA_ptr (o : Nat) (T : TypeId) (cs : List AV) : fadA (some (o, T)) (.ptr cs) = .ptr (cs.drop o) := rfl
@[simp] theorem fadC_some (P : Program) (o : Nat) (T : TypeId) (a : AV) : fadC P (some (o, T)) a = (szP P T ≠ 0 ∧ adrC a) := rfl
@[simp] theorem rowSz_row (P : Program) (e E : TypeId) (es : List (List AV)) : rowSz P e (some (.row E es)) = (szP P E = szP P e) := rfl
@[simp] theorem ldA_eq (P : Program) (T : TypeId) (cs : List AV) : ldA P T cs = if isRowT P T then .agg (cs.take (szP P T)) else cs.headD .dead := rfl
@[simp] theorem ldC_eq (P : Program) (T : TypeId) (cs : List AV) : ldC P T cs = if isRowT P T then infP P T = true ∧ szP P T ≤ cs.length else undP P T = true ∧ 0 < cs.length := rfl
@[simp] theorem idxA_sl (i : AV) (es : List (List AV)) : idxA i (.sl es) = .ptr (es.getD (intOfA i).toNat []) := rfl
@[simp] theorem idxA_rw (i : AV) (n lo len : Nat) : idxA i (.rw n lo len) = .elt n (lo + (intOfA i).toNat) 0 := rfl
@[simp] theorem idxC_sl (P : Program) (st : St) (y : Bool) (i : AV) (e : TypeId) (es : List (List AV)) : idxC P st y i e (.sl es) = (y = true → 0 ≤ intOfA i ∧ intOfA i < es.length ∧ (es.getD (intOfA i).toNat []).length = szP P e) := rfl
@[simp] theorem idxC_rw (P : Program) (st : St) (y : Bool) (i : AV) (e : TypeId) (n lo len : Nat) : idxC P st y i e (.rw n lo len) = ((y = true → 0 ≤ intOfA i ∧ intOfA i < len) ∧ rowSz P e (st.blk n)) := rfl
@[simp] theorem sliceA_sl (st : St) (lo hi : Option Operand) (es : List (List AV)) : sliceA st lo hi (.sl es) = .sl ((es.take (boundA st hi es.length)).drop (boundA st lo 0)) := rfl
@[simp] theorem sliceA_rw (st : St) (lo hi : Option Operand) (n l len : Nat) : sliceA st lo hi (.rw n l len) = .rw n (l + boundA st lo 0) (boundA st hi len - boundA st lo 0) := rfl
@[simp] theorem sliceC_sl (P : Program) (st : St) (y : Bool) (T : TypeId) (lo hi : Option Operand) (es : List (List AV)) : sliceC P st y T lo hi (.sl es) = onO (elemP P T) fun e => infP P e = true ∧ boundC st y hi es.length ∧ boundC st y lo (boundA st hi es.length) ∧ ∀ x ∈ es, x.length = szP P e := by rw [← onO_eq]; rfl
@[simp] theorem sliceC_rw (P : Program) (st : St) (y : Bool) (T : TypeId) (lo hi : Option Operand) (n l len : Nat) : sliceC P st y T lo hi (.rw n l len) = onO (elemP P T) fun e => infP P e = true ∧ boundC st y hi len ∧ boundC st y lo (boundA st hi len) ∧ rowSz P e (st.blk n) := by rw [← onO_eq]; rfl
@[simp] theorem tupA_tup (j : Nat) (as : List AV) : tupA j (.tup as) = nth .dead as j := nth_eq _ _ _
@[simp] theorem tupC_tup (j : Nat) (as : List AV) : tupC j (.tup as) = (j < as.length) := rfl
@[simp] theorem lenA_sl (es : List (List AV)) : lenA (.sl es) = .imm (.int .i64 es.length) := rfl
@[simp] theorem lenA_rw (n lo len : Nat) : lenA (.rw n lo len) = .imm (.int .i64 len) := rfl
@[simp] theorem lenA_str (s : ByteArray) : lenA (.imm (.string s)) = .imm (.int .i64 s.size) := rfl
@[simp] theorem lenC_sl (P : Program) (T : TypeId) (es : List (List AV)) : lenC P T (.sl es) = ((elemP P T).isSome = true) := rfl
@[simp] theorem lenC_rw (P : Program) (T : TypeId) (n lo len : Nat) : lenC P T (.rw n lo len) = ((elemP P T).isSome = true) := rfl
@[simp] theorem lenC_str (P : Program) (T : TypeId) (s : ByteArray) : lenC P T (.imm (.string s)) = (strP P T = true) := rfl
@[congr] theorem bldA_congr (st : St) (l : List (Nat × Operand)) {o o'} (h : o = o') : bldA st l o = bldA st l o' := by rw [h]
@[simp] theorem bldA_some (st : St) (l : List (Nat × Operand)) (zs : List Value) (pl : List (Nat × Nat)) : bldA st l (some (zs, pl)) = .agg (fillA st pl (cxL zs) l) := by simp only [bldA, cxL_eq]
@[congr] theorem bldC_congr (st : St) (y : Bool) (l : List (Nat × Operand)) {o o'} (h : o = o') : bldC st y l o = bldC st y l o' := by rw [h]
@[simp] theorem bldC_some (st : St) (y : Bool) (l : List (Nat × Operand)) (zs : List Value) (pl : List (Nat × Nat)) : bldC st y l (some (zs, pl)) = fillC st y pl zs.length l := rfl
@[simp] theorem tasA_nil (T : TypeId) (ok : Bool) (z : AV) : tasA T ok (some z) (.imm .nilIface) = if ok then .tup [z, .imm (.bool false)] else .dead := rfl
@[simp] theorem tasC_nil (P : Program) (T : TypeId) (ok : Bool) : tasC P T ok (.imm .nilIface) = (undP P T = true ∧ ifcP P T = false ∧ ok = true ∧ (zroP P T).isSome = true) := rfl
@[simp] theorem ifc0_eq (P : Program) (T : TypeId) : ifc0 P T = (ifcP P T = false ∧ undP P T = true) := rfl
@[simp] theorem isConst_tmp (t : Nat) : isConstO (.tmp t) = false := rfl
@[simp] theorem isConst_const (v : Value) : isConstO (.const v) = true := rfl
@[simp] theorem binX_int (op : BinOp) (k k' : IntKind) (x y : Int) : binX op (.imm (.int k x)) (.imm (.int k' y)) = intA op k x y := rfl
@[simp] theorem binX_str (op : BinOp) (x y : ByteArray) : binX op (.imm (.string x)) (.imm (.string y)) = strA op x y := rfl
@[simp] theorem binX_bool (op : BinOp) (x y : Bool) : binX op (.imm (.bool x)) (.imm (.bool y)) = eqlA op (x == y) := rfl
@[simp] theorem binX_nil (op : BinOp) : binX op (.imm (.pointer none)) (.imm (.pointer none)) = eqlA op true := rfl
@[simp] theorem binX_ptr (op : BinOp) (cs : List AV) : binX op (.ptr cs) (.imm (.pointer none)) = eqlA op false := rfl
@[simp] theorem binX_nilI (op : BinOp) : binX op (.imm .nilIface) (.imm .nilIface) = eqlA op true := rfl
@[simp] theorem binX_ifc (op : BinOp) (T : TypeId) (a : AV) : binX op (.ifc T a) (.imm .nilIface) = eqlA op false := rfl
@[simp] theorem binX_agg (op : BinOp) (as bs : List AV) : binX op (.agg as) (.agg bs) = eqlA op (eqCs as bs) := rfl
@[simp] theorem eqCs_cons (a b : AV) (as bs : List AV) : eqCs (a :: as) (b :: bs) = (eqV a b && eqCs as bs) := rfl
@[simp] theorem eqCs_nil (bs : List AV) : eqCs [] bs = true := by cases bs <;> rfl
@[simp] theorem eqV_int (k k' : IntKind) (x y : Int) : eqV (.imm (.int k x)) (.imm (.int k' y)) = (x == y) := rfl
@[simp] theorem eqV_str (x y : ByteArray) : eqV (.imm (.string x)) (.imm (.string y)) = (x.toList == y.toList) := rfl
theorem boolP_eq (P : Program) (T : TypeId) : isBoolT P T = (boolP P T = true) := by
  unfold isBoolT boolP
  cases P.underlying T with
  | none => simp
  | some d => cases d <;> simp
theorem ptrP_eq (P : Program) (T : TypeId) : isPtrT P T = (ptrP P T = true) := by
  unfold isPtrT ptrP
  cases P.underlying T with
  | none => simp
  | some d => cases d <;> simp
theorem ifcP_eq (P : Program) (T : TypeId) : isIfcT P T = (ifcP P T = true) := by
  unfold isIfcT ifcP
  cases P.underlying T with
  | none => simp
  | some d => cases d <;> simp
@[simp] theorem binC_agg (P : Program) (op : BinOp) (T : TypeId) (c : Bool) (as bs : List AV) : binXC P op T c (.agg as) (.agg bs) = (eqlC op ∧ eqTP P T = true ∧ eqFC P (typsP P T) as bs) := rfl
@[simp] theorem eqFC_nil (P : Program) : eqFC P [] [] [] = True := rfl
@[simp] theorem eqFC_cons (P : Program) (t : TypeId) (ts : List TypeId) (a b : AV) (as bs : List AV) : eqFC P (t :: ts) (a :: as) (b :: bs) = (eq1C P t a b ∧ eqFC P ts as bs) := rfl
@[simp] theorem eq1C_int (P : Program) (t : TypeId) (k k' : IntKind) (x y : Int) : eq1C P t (.imm (.int k x)) (.imm (.int k' y)) = ((kindP P t).isSome = true ∧ k = k') := rfl
@[simp] theorem eq1C_str (P : Program) (t : TypeId) (x y : ByteArray) : eq1C P t (.imm (.string x)) (.imm (.string y)) = (strP P t = true) := rfl
@[simp] theorem binC_int (P : Program) (op : BinOp) (T : TypeId) (c : Bool) (k k' : IntKind) (x y : Int) : binXC P op T c (.imm (.int k x)) (.imm (.int k' y)) = (k = k' ∧ intC op y) := rfl
@[simp] theorem binC_str (P : Program) (op : BinOp) (T : TypeId) (c : Bool) (x y : ByteArray) : binXC P op T c (.imm (.string x)) (.imm (.string y)) = strC op x y := rfl
@[simp] theorem binC_bool (P : Program) (op : BinOp) (T : TypeId) (c : Bool) (x y : Bool) : binXC P op T c (.imm (.bool x)) (.imm (.bool y)) = (eqlC op ∧ boolP P T = true) := by rw [← boolP_eq]; rfl
@[simp] theorem binC_nil (P : Program) (op : BinOp) (T : TypeId) (c : Bool) : binXC P op T c (.imm (.pointer none)) (.imm (.pointer none)) = (eqlC op ∧ ptrP P T = true) := by rw [← ptrP_eq]; rfl
@[simp] theorem binC_ptr (P : Program) (op : BinOp) (T : TypeId) (c : Bool) (cs : List AV) : binXC P op T c (.ptr cs) (.imm (.pointer none)) = (eqlC op ∧ ptrP P T = true) := by rw [← ptrP_eq]; rfl
@[simp] theorem binC_nilI (P : Program) (op : BinOp) (T : TypeId) (c : Bool) : binXC P op T c (.imm .nilIface) (.imm .nilIface) = (eqlC op ∧ ifcP P T = true ∧ c = true) := by rw [← ifcP_eq]; rfl
@[simp] theorem binC_ifc (P : Program) (op : BinOp) (T : TypeId) (c : Bool) (T' : TypeId) (a : AV) : binXC P op T c (.ifc T' a) (.imm .nilIface) = (eqlC op ∧ ifcP P T = true) := by rw [← ifcP_eq]; rfl
@[simp] theorem intA_add (k : IntKind) (x y : Int) : intA .add k x y = .imm (.int k (k.wrap (x + y))) := rfl
@[simp] theorem intC_add (y : Int) : intC .add y = True := rfl
@[simp] theorem intA_sub (k : IntKind) (x y : Int) : intA .sub k x y = .imm (.int k (k.wrap (x - y))) := rfl
@[simp] theorem intC_sub (y : Int) : intC .sub y = True := rfl
@[simp] theorem intA_eql (k : IntKind) (x y : Int) : intA .eql k x y = .imm (.bool (x == y)) := rfl
@[simp] theorem intC_eql (y : Int) : intC .eql y = True := rfl
@[simp] theorem intA_neq (k : IntKind) (x y : Int) : intA .neq k x y = .imm (.bool (x != y)) := rfl
@[simp] theorem intC_neq (y : Int) : intC .neq y = True := rfl
@[simp] theorem intA_lss (k : IntKind) (x y : Int) : intA .lss k x y = .imm (.bool (decide (x < y))) := rfl
@[simp] theorem intC_lss (y : Int) : intC .lss y = True := rfl
@[simp] theorem intA_leq (k : IntKind) (x y : Int) : intA .leq k x y = .imm (.bool (decide (x ≤ y))) := rfl
@[simp] theorem intC_leq (y : Int) : intC .leq y = True := rfl
@[simp] theorem intA_gtr (k : IntKind) (x y : Int) : intA .gtr k x y = .imm (.bool (decide (x > y))) := rfl
@[simp] theorem intC_gtr (y : Int) : intC .gtr y = True := rfl
@[simp] theorem intA_geq (k : IntKind) (x y : Int) : intA .geq k x y = .imm (.bool (decide (x ≥ y))) := rfl
@[simp] theorem intC_geq (y : Int) : intC .geq y = True := rfl
@[simp] theorem strA_eql (x y : ByteArray) : strA .eql x y = .imm (.bool (x.toList == y.toList)) := rfl
@[simp] theorem strC_eql (x y : ByteArray) : strC .eql x y = True := rfl
@[simp] theorem strA_neq (x y : ByteArray) : strA .neq x y = .imm (.bool (!(x.toList == y.toList))) := rfl
@[simp] theorem strC_neq (x y : ByteArray) : strC .neq x y = True := rfl
@[simp] theorem strA_leq (x y : ByteArray) : strA .leq x y = .imm (.bool (Op.bytesLess x.toList y.toList || x.toList == y.toList)) := rfl
@[simp] theorem strC_leq (x y : ByteArray) : strC .leq x y = True := rfl
@[simp] theorem strA_geq (x y : ByteArray) : strA .geq x y = .imm (.bool (!(Op.bytesLess x.toList y.toList))) := rfl
@[simp] theorem strC_geq (x y : ByteArray) : strC .geq x y = True := rfl
@[simp] theorem eqlA_eql (b : Bool) : eqlA .eql b = .imm (.bool b) := rfl
@[simp] theorem eqlA_neq (b : Bool) : eqlA .neq b = .imm (.bool (!b)) := rfl
@[simp] theorem eqlC_eql : eqlC .eql = True := rfl
@[simp] theorem eqlC_neq : eqlC .neq = True := rfl
@[simp] theorem unA_not (b : Bool) : unA .not (.imm (.bool b)) = .imm (.bool (!b)) := rfl
@[simp] theorem unC_not (b : Bool) : unC .not (.imm (.bool b)) = True := eq_true rfl
@[simp] theorem yC_b (want b : Bool) : yC want (.imm (.bool b)) = some (b == want) := rfl
@[simp] theorem yC_c (want y b : Bool) : yC want (.cnd y (.imm (.bool b))) = some (y && (b == want)) := rfl
def yB (st : St) (want : Bool) : Option Nat → Option Bool
  | none => none
  | some t => yC want (st.val t)
@[simp] theorem yB_some (st : St) (want : Bool) (t : Nat) : yB st want (some t) = yC want (st.val t) := rfl
@[simp] theorem yA_eq (l : List Oper) (st : St) (j : Nat) (want : Bool) : yA (dstA l) st j want = yB st want (dstL l .mk j) := by
  show yA _ _ _ _ = yB st want ((dstA l).getD j none)
  simp only [yA]
  cases (dstA l).getD j none <;> rfl
@[congr] theorem stoX_congr (P : Program) (st : St) {v v' : AV} (R : Eff → Prop) {a a' : AV} (h : v = v') (h' : a = a') : stoX P st v R a = stoX P st v' R a' := by rw [h, h']
@[simp] theorem stoX_ref (P : Program) (st : St) (v : AV) (R : Eff → Prop) (n off : Nat) : stoX P st v R (.ref n off) = stoB off n v.cells R (st.blk n) := rfl
@[simp] theorem stoX_elt (P : Program) (st : St) (v : AV) (R : Eff → Prop) (n i j : Nat) : stoX P st v R (.elt n i j) = stoF P st i j n v R (st.blk n) := rfl
@[congr] theorem stoB_congr {off n : Nat} {cs cs' : List AV} (R : Eff → Prop) {b b' : Option Blk} (h : cs = cs') (h' : b = b') : stoB off n cs R b = stoB off n cs' R b' := by rw [h, h']
@[simp] theorem stoB_box (off n : Nat) (cs' : List AV) (R : Eff → Prop) (T : TypeId) (cs : List AV) : stoB off n cs' R (some (.box T cs)) = (off + cs'.length ≤ cs.length ∧ R ⟨none, .dead, [(n, some (.box T (spliceL cs off cs')))], []⟩) := rfl
@[congr] theorem stoF_congr {P : Program} {st : St} {i i' j j' n : Nat} {v v' : AV} (R : Eff → Prop) {b b' : Option Blk} (h1 : i = i') (h2 : j = j') (h : v = v') (h' : b = b') : stoF P st i j n v R b = stoF P st i' j' n v' R b' := by rw [h, h', h1, h2]
@[simp] theorem stoF_row (P : Program) (st : St) (i j n : Nat) (v : AV) (R : Eff → Prop) (E : TypeId) (es : List (List AV)) : stoF P st i j n v R (some (.row E es)) = stoY P st i j n E es v (rch st.blk (refsA v)) R := rfl
@[congr] theorem stoY_congr {P : Program} {st : St} {i j n : Nat} {E : TypeId} {es : List (List AV)} {v : AV} {ns ns' : List Nat} (R : Eff → Prop) (h : ns = ns') : stoY P st i j n E es v ns R = stoY P st i j n E es v ns' R := by rw [h]
@[simp] theorem stoY_nil (P : Program) (st : St) (i j n : Nat) (E : TypeId) (es : List (List AV)) (v : AV) (R : Eff → Prop) : stoY P st i j n E es v [] R = (i < es.length ∧ j + v.cells.length ≤ szP P E ∧ pureA v = true ∧ R ⟨none, .dead, [(n, some (.row E (es.set i (spliceL (es.getD i []) j (fixA v).cells))))], []⟩) := by
  simp only [stoY, frzOk_nil, true_and, frzF_nil, dropE, List.map_nil]; simp
@[simp] theorem slE_row (lo len : Nat) (E : TypeId) (es : List (List AV)) : slE lo len (some (.row E es)) = if lo + len ≤ es.length then some (E, (es.drop lo).take len) else none := rfl
def appSG (E n : Nat) : Option (TypeId × List (List AV)) → Option (List (List AV) × List Nat)
  | some p => if p.1 = E then some (p.2, [n]) else none
  | none => none
@[simp] theorem appSG_some (E n : Nat) (E' : TypeId) (es : List (List AV)) : appSG E n (some (E', es)) = if E' = E then some (es, [n]) else none := rfl
@[simp] theorem appS_rw (st : St) (E : TypeId) (n len : Nat) : appS st E (.rw n 0 len) = appSG E n (slE 0 len (st.blk n)) := by
  simp only [appS, appSG]; cases slE 0 len (st.blk n) <;> rfl
def appXG : Option (TypeId × List (List AV)) → Option (List (List AV))
  | some p => some p.2
  | none => none
@[simp] theorem appXG_some (E : TypeId) (es : List (List AV)) : appXG (some (E, es)) = some es := rfl
@[simp] theorem appX_sl (st : St) (es : List (List AV)) : appX st (.sl es) = some es := rfl
@[simp] theorem appX_rw (st : St) (n lo len : Nat) : appX st (.rw n lo len) = appXG (slE lo len (st.blk n)) := by
  simp only [appX]; cases slE lo len (st.blk n) <;> rfl
@[simp] theorem appC_eq (P : Program) (E : TypeId) (es es2 : List (List AV)) : appC P E es es2 = ((∀ e ∈ es2, e.length = szP P E) ∧ (es.length + es2.length) * bytesP P E ≤ 140737488355328 ∧ es.length + es2.length ≤ 9223372036854775807 ∧ 0 < szP P E ∧ zszP P E = true) := rfl
@[simp] theorem appE_eq (E d : Nat) (es es2 : List (List AV)) (ns : List Nat) : appE E d es es2 ns = ⟨some d, .rw d 0 (es.length + es2.length), (d, some (.row E (es ++ es2))) :: dropE ns, [d]⟩ := rfl
@[congr] theorem rowX_congr {P : Program} {st : St} {d n : Nat} {E : TypeId} {l l' : List AV} {ix ix' ns ns' : List Nat} (R : Eff → Prop) (h : l = l') (h1 : ix = ix') (h2 : ns = ns') : rowX P st d n E l ix ns R = rowX P st d n E l' ix' ns' R := by rw [h, h1, h2]
@[simp] theorem rowX_eq (P : Program) (st : St) (d n : Nat) (E : TypeId) (l : List AV) (ix ns : List Nat) (R : Eff → Prop) : rowX P st d n E l ix ns R = (frzOk st.blk ns ∧ prC st.blk ns (szP P E) l ∧ n * szP P E ≤ 16777216 ∧ n ≤ 16777216 ∧ zokP P E = true ∧ ix = List.range n ∧ R ⟨some d, .rw d 0 n, (d, some (.row E (prV st.blk ns l))) :: dropE ns, [d]⟩) := rfl
@[simp] theorem slotF_fnc (f : Nat) (cs : List AV) : slotF (.fnc f cs) = some (f, cs) := rfl
@[simp] theorem slotF_imm (f : FuncId) : slotF (.imm (.func (.func f) #[] #[])) = some (f, []) := rfl
@[congr] theorem dynX_congr {P : Program} {st : St} {d : Nat} {as as' : List AV} (R : Eff → Prop) {o o' : Option (FuncId × List AV)} (h : as = as') (h' : o = o') : dynX P st d as R o = dynX P st d as' R o' := by rw [h, h']
@[simp] theorem dynX_some (P : Program) (st : St) (d : Nat) (as : List AV) (R : Eff → Prop) (f : FuncId) (cs : List AV) : dynX P st d as R (some (f, cs)) = callX P st d f (as ++ cs) R := rfl
@[congr] theorem callX_congr {P : Program} {st : St} {d : Nat} {f : FuncId} {as as' : List AV} (R : Eff → Prop) (h : as = as') : callX P st d f as R = callX P st d f as' R := by rw [h]
@[simp] theorem callX_eq (P : Program) (st : St) (d : Nat) (f : FuncId) (as : List AV) (R : Eff → Prop) : callX P st d f as R = callT P st d f as (fixL (frzM st.blk (rch st.blk (refsL as)) as)) (rch st.blk (refsL as)) (frzOk st.blk (rch st.blk (refsL as)) ∧ pureL (frzM st.blk (rch st.blk (refsL as)) as) = true) R .mk := rfl
theorem callP_of {P : Program} {st : St} {d : Nat} {f : FuncId} {as as1 : List AV} {ns : List Nat} {ok : Prop} {R : Eff → Prop} {tg : Tag R} {a : AV} {rt} (h : Has P f as1 a rt) (hok : ok) (hs : a.shared = true) (hk : R ⟨some d, a, dropE ns, []⟩) : callT P st d f as as1 ns ok R tg := .inl ⟨hok, a, rt, h, hs, hk⟩
theorem callG_of {P : Program} {d : Nat} {y : Bool} {f : FuncId} {as1 : List AV} {ok : Prop} {R : Eff → Prop} {tg : Tag R} {a : AV} {rt} (h : y = true → Has P f as1 a rt) (hok : ok) (hs : a.shared = true) (hk : R ⟨some d, .cnd y a, [], []⟩) : callGT P d y f as1 ok R tg := ⟨hok, a, rt, h, hs, hk⟩
def fitO (B' : Blk) : Option Blk → Prop
  | some B => fitK B B'
  | none => False
@[simp] theorem fitO_some (B B' : Blk) : fitO B' (some B) = fitK B B' := rfl
@[simp] theorem fitK_box (T T' : TypeId) (cs cs' : List AV) : fitK (.box T cs) (.box T' cs') = (T = T' ∧ fitL cs cs') := rfl
@[simp] theorem fitK_row (E E' : TypeId) (es es' : List (List AV)) : fitK (.row E es) (.row E' es') = (E = E' ∧ es = es') := rfl
@[simp] theorem fitL_nil : fitL [] [] = True := rfl
@[simp] theorem fitL_cons (a b : AV) (l m : List AV) : fitL (a :: l) (b :: m) = (fit1 a b ∧ fitL l m) := rfl
@[simp] theorem fit1_self (a : AV) : fit1 a a = True := eq_true (.inl rfl)
@[simp] theorem fit1_agg (cs cs' : List AV) : fit1 (.agg cs) (.agg cs') = (cs = cs' ∨ fixL cs = cs') := by simp [fit1, fixA]
def lendH (st : St) (σ : List (Nat × Nat)) : List (Nat × Blk) → Prop
  | [] => True
  | p :: l => fitO (renK (asN σ) p.2) (st.blk (asN σ p.1)) ∧ lendH st σ l
@[simp] theorem lendH_nil (st : St) (σ : List (Nat × Nat)) : lendH st σ [] = True := rfl
@[simp] theorem lendH_cons (st : St) (σ : List (Nat × Nat)) (n : Nat) (B : Blk) (l : List (Nat × Blk)) : lendH st σ ((n, B) :: l) = (fitO (renK (asN σ) B) (st.blk (asN σ n)) ∧ lendH st σ l) := rfl
def hN (H : List (Nat × Blk)) : List Nat := match H with
  | [] => []
  | p :: l => p.1 :: hN l
def hR (H : List (Nat × Blk)) : List Nat := match H with
  | [] => []
  | p :: l => refsK p.2 ++ hR l
def hS (σ : List (Nat × Nat)) (H : List (Nat × Blk)) : List Nat := match H with
  | [] => []
  | p :: l => asN σ p.1 :: hS σ l
def hE (τ : List (Nat × Nat)) (H : List (Nat × Blk)) (r : List (Nat × Option Blk)) : List (Nat × Option Blk) := match H with
  | [] => r
  | p :: l => (asN τ p.1, some (renK (asN τ) p.2)) :: hE τ l r
def fN (fr : List (Nat × Nat)) : List Nat := match fr with
  | [] => []
  | p :: l => p.1 :: fN l
def fM (fr : List (Nat × Nat)) : List Nat := match fr with
  | [] => []
  | p :: l => p.2 :: fM l
def freeB (st : St) : List Nat → Bool
  | [] => true
  | n :: l => !st.usd n && freeB st l
@[simp] theorem hN_nil : hN [] = [] := rfl
@[simp] theorem hN_cons (n : Nat) (B : Blk) (l : List (Nat × Blk)) : hN ((n, B) :: l) = n :: hN l := rfl
@[simp] theorem hR_nil : hR [] = [] := rfl
@[simp] theorem hR_cons (n : Nat) (B : Blk) (l : List (Nat × Blk)) : hR ((n, B) :: l) = refsK B ++ hR l := rfl
@[simp] theorem hS_nil (σ : List (Nat × Nat)) : hS σ [] = [] := rfl
@[simp] theorem hS_cons (σ : List (Nat × Nat)) (n : Nat) (B : Blk) (l : List (Nat × Blk)) : hS σ ((n, B) :: l) = asN σ n :: hS σ l := rfl
@[simp] theorem hE_nil (σ : List (Nat × Nat)) (r : List (Nat × Option Blk)) : hE σ [] r = r := rfl
@[simp] theorem hE_cons (σ : List (Nat × Nat)) (n : Nat) (B : Blk) (l : List (Nat × Blk)) (r : List (Nat × Option Blk)) : hE σ ((n, B) :: l) r = (asN σ n, some (renK (asN σ) B)) :: hE σ l r := rfl
@[simp] theorem fN_nil : fN [] = [] := rfl
@[simp] theorem fN_cons (a b : Nat) (l : List (Nat × Nat)) : fN ((a, b) :: l) = a :: fN l := rfl
@[simp] theorem fM_nil : fM [] = [] := rfl
@[simp] theorem fM_cons (a b : Nat) (l : List (Nat × Nat)) : fM ((a, b) :: l) = b :: fM l := rfl
@[simp] theorem freeB_nil (st : St) : freeB st [] = true := rfl
@[simp] theorem freeB_cons (st : St) (n : Nat) (l : List Nat) : freeB st (n :: l) = (!st.usd n && freeB st l) := rfl
def disB (K : List Nat) : List Nat → Bool
  | [] => true
  | n :: l => !memN n K && disB K l
@[simp] theorem disB_nil (K : List Nat) : disB K [] = true := rfl
@[simp] theorem disB_cons (K : List Nat) (n : Nat) (l : List Nat) : disB K (n :: l) = (!memN n K && disB K l) := rfl
@[simp] theorem ndB_nil : ndB [] = true := rfl
@[simp] theorem ndB_cons (n : Nat) (l : List Nat) : ndB (n :: l) = (!memN n l && ndB l) := by simp only [ndB, memN_eq]
theorem hN_eq : ∀ H : List (Nat × Blk), hN H = H.map (·.1)
  | [] => rfl
  | p :: l => by rw [hN, hN_eq l]; rfl
theorem hR_eq : ∀ H : List (Nat × Blk), hR H = H.flatMap fun p => refsK p.2
  | [] => rfl
  | p :: l => by rw [hR, hR_eq l]; rfl
theorem hS_eq (σ : List (Nat × Nat)) : ∀ H : List (Nat × Blk), hS σ H = H.map fun p => asN σ p.1
  | [] => rfl
  | p :: l => by rw [hS, hS_eq σ l]; rfl
theorem hE_eq (τ : List (Nat × Nat)) (r : List (Nat × Option Blk)) : ∀ H : List (Nat × Blk), hE τ H r = (H.map fun p => (asN τ p.1, some (renK (asN τ) p.2))) ++ r
  | [] => rfl
  | p :: l => by rw [hE, hE_eq τ r l]; rfl
theorem fN_eq : ∀ H : List (Nat × Nat), fN H = H.map (·.1)
  | [] => rfl
  | p :: l => by rw [fN, fN_eq l]; rfl
theorem fM_eq : ∀ H : List (Nat × Nat), fM H = H.map (·.2)
  | [] => rfl
  | p :: l => by rw [fM, fM_eq l]; rfl
theorem lendH_spec {st : St} {σ : List (Nat × Nat)} : ∀ {H : List (Nat × Blk)}, lendH st σ H → ∀ p ∈ H, ∃ B, st.blk (asN σ p.1) = some B ∧ fitK B (renK (asN σ) p.2)
  | [], _, p, hp => by cases hp
  | q :: l, h, p, hp => by
    rcases List.mem_cons.1 hp with rfl | hp
    · have h1 := h.1
      cases hb : st.blk (asN σ p.1) with
      | none => rw [hb] at h1; exact h1.elim
      | some B => rw [hb] at h1; exact ⟨B, rfl, h1⟩
    · exact lendH_spec h.2 p hp
theorem freeB_spec {st : St} : ∀ {l : List Nat}, freeB st l = true → ∀ n ∈ l, st.usd n = false
  | [], _, n, hn => by cases hn
  | m :: l, h, n, hn => by
    simp only [freeB, Bool.and_eq_true, Bool.not_eq_true'] at h
    exact (List.mem_cons.1 hn).elim (fun e => e ▸ h.1) (freeB_spec h.2 n)
theorem disB_spec {K : List Nat} : ∀ {l : List Nat}, disB K l = true → ∀ n ∈ l, n ∉ K
  | [], _, n, hn => by cases hn
  | m :: l, h, n, hn => by
    simp only [disB, Bool.and_eq_true, Bool.not_eq_true', ← memN_eq] at h
    rcases List.mem_cons.1 hn with rfl | hn
    · simpa using h.1
    · exact disB_spec h.2 n hn
theorem callH_of {P : Program} {st : St} {d : Nat} {f : FuncId} {as as1 : List AV} {ns : List Nat} {ok : Prop} {R : Eff → Prop} {tg : Tag R} {args : List AV} {H H' : List (Nat × Blk)} {a : AV} {K : List Nat} (σ fr : List (Nat × Nat)) (h : Hs P f args H a K H') (ha : fitL as (renL (asN σ) args)) (hl : lendH st σ H)
    (hc : (ndB (hS σ H) && subset (refsL args ++ hR H) (hN H) && freeB st (fM fr) && ndB (fM fr) && subset K (hN H) && disB K (fN fr) && subset (refsA a ++ hR H' ++ hN H') (K ++ fN fr) && ndB (fN fr)) = true)
    (hk : R ⟨some d, renA (asN (fr ++ σ)) a, hE (fr ++ σ) H' (dropE (hS σ H)), fM fr⟩) : callT P st d f as as1 ns ok R tg := by
  simp only [Bool.and_eq_true] at hc
  obtain ⟨⟨⟨⟨⟨⟨⟨c1, c2⟩, c3⟩, c4⟩, c5⟩, c6⟩, c7⟩, c8⟩ := hc
  rw [hS_eq, hE_eq, fM_eq] at hk
  rw [hS_eq] at c1
  rw [hR_eq, hN_eq] at c2
  rw [fM_eq] at c3 c4
  rw [hN_eq] at c5
  rw [fN_eq] at c6 c8
  rw [hR_eq, hN_eq, fN_eq] at c7
  exact .inr ⟨_, ⟨args, H, a, K, H', σ, fr, h, ha, lendH_spec hl, nd_spec c1, c2, fun q hq => freeB_spec c3 _ (List.mem_map_of_mem hq), nd_spec c4, c5, fun q hq => disB_spec c6 _ (List.mem_map_of_mem hq), c7, nd_spec c8, rfl⟩, hk⟩
@[simp] theorem asN_cons (a b : Nat) (l : List (Nat × Nat)) (n : Nat) : asN ((a, b) :: l) n = if n = a then b else asN l n := rfl
@[simp] theorem dropE_nil : dropE [] = [] := rfl
@[simp] theorem dropE_cons (n : Nat) (ns : List Nat) : dropE (n :: ns) = (n, none) :: dropE ns := rfl
@[simp] theorem app_mk (st : St) (dst : Option Nat) (a : AV) (bs : List (Nat × Option Blk)) (us : List Nat) : st.app ⟨dst, a, bs, us⟩ = ((st.setL bs).useL us).putO dst a := rfl
@[simp] theorem setL_nil (st : St) : st.setL [] = st := rfl
@[simp] theorem setL_cons (st : St) (n : Nat) (b : Option Blk) (l : List (Nat × Option Blk)) : st.setL ((n, b) :: l) = (st.setL l).setB n b := rfl
@[simp] theorem useL_nil (st : St) : st.useL [] = st := rfl
@[simp] theorem useL_cons (st : St) (n : Nat) (l : List Nat) : st.useL (n :: l) = (st.useL l).use n := rfl
@[simp] theorem putO_some (st : St) (d : Nat) (a : AV) : st.putO (some d) a = st.putv d a := rfl
@[simp] theorem putO_none (st : St) (a : AV) : st.putO none a = st := rfl
@[simp] theorem putv_val (st : St) (d : Nat) (a : AV) (u : Nat) : (st.putv d a).val u = if u = d then a else st.val u := rfl
@[simp] theorem putv_blk (st : St) (d : Nat) (a : AV) (n : Nat) : (st.putv d a).blk n = st.blk n := rfl
@[simp] theorem putv_usd (st : St) (d : Nat) (a : AV) (n : Nat) : (st.putv d a).usd n = st.usd n := rfl
@[simp] theorem setB_val (st : St) (n : Nat) (b : Option Blk) (u : Nat) : (st.setB n b).val u = st.val u := rfl
@[simp] theorem setB_blk (st : St) (n : Nat) (b : Option Blk) (m : Nat) : (st.setB n b).blk m = if m = n then b else st.blk m := rfl
@[simp] theorem setB_usd (st : St) (n : Nat) (b : Option Blk) (m : Nat) : (st.setB n b).usd m = st.usd m := rfl
@[simp] theorem use_val (st : St) (n : Nat) (u : Nat) : (st.use n).val u = st.val u := rfl
@[simp] theorem use_blk (st : St) (n : Nat) (m : Nat) : (st.use n).blk m = st.blk m := rfl
@[simp] theorem use_usd (st : St) (n : Nat) (m : Nat) : (st.use n).usd m = (m == n || st.usd m) := rfl
@[simp] theorem asc_val (vs : List (Nat × AV)) (bs : List (Nat × Blk)) (us : List (Nat × Bool)) (d : Bool) (u : Nat) : (St.asc vs bs us d).val u = ascV vs u := rfl
@[simp] theorem asc_blk (vs : List (Nat × AV)) (bs : List (Nat × Blk)) (us : List (Nat × Bool)) (d : Bool) (u : Nat) : (St.asc vs bs us d).blk u = ascB bs u := rfl
@[simp] theorem asc_usd (vs : List (Nat × AV)) (bs : List (Nat × Blk)) (us : List (Nat × Bool)) (d : Bool) (u : Nat) : (St.asc vs bs us d).usd u = ascU d us u := rfl
@[simp] theorem ascV_nil (u : Nat) : ascV [] u = .dead := rfl
@[simp] theorem ascV_cons (k : Nat) (a : AV) (l : List (Nat × AV)) (u : Nat) : ascV ((k, a) :: l) u = if u = k then a else ascV l u := rfl
@[simp] theorem ascB_nil (u : Nat) : ascB [] u = none := rfl
@[simp] theorem ascB_cons (k : Nat) (a : Blk) (l : List (Nat × Blk)) (u : Nat) : ascB ((k, a) :: l) u = if u = k then some a else ascB l u := rfl
@[simp] theorem ascU_nil (d : Bool) (u : Nat) : ascU d [] u = d := rfl
@[simp] theorem ascU_cons (d : Bool) (k : Nat) (a : Bool) (l : List (Nat × Bool)) (u : Nat) : ascU d ((k, a) :: l) u = if u = k then a else ascU d l u := rfl
@[simp] theorem args_val (l : List AV) (H : List (Nat × Blk)) (u : Nat) : (St.args l H).val u = nth .dead l u := nth_eq _ _ _
@[simp] theorem args_blk (l : List AV) (H : List (Nat × Blk)) (u : Nat) : (St.args l H).blk u = ascB H u := rfl
@[simp] theorem args_usd (l : List AV) (H : List (Nat × Blk)) (u : Nat) : (St.args l H).usd u = memN u (hN H) := by rw [← memN_eq, hN_eq]; rfl
@[simp] theorem lit_eq (nv nb : List Nat) (st : St) : lit nv nb st = St.asc (litV st nv) (litB st nb) (litU st nb) true := rfl
@[simp] theorem litV_nil (st : St) : litV st [] = [] := rfl
@[simp] theorem litV_cons (st : St) (t : Nat) (l : List Nat) : litV st (t :: l) = (t, trimA (st.val t)) :: litV st l := rfl
@[simp] theorem litB_nil (st : St) : litB st [] = [] := rfl
@[simp] theorem litB_cons (st : St) (n : Nat) (l : List Nat) : litB st (n :: l) = consB n (litB st l) (st.blk n) := rfl
@[simp] theorem consB_some (n : Nat) (r : List (Nat × Blk)) (B : Blk) : consB n r (some B) = (n, B) :: r := rfl
@[simp] theorem consB_none (n : Nat) (r : List (Nat × Blk)) : consB n r none = r := rfl
@[simp] theorem litU_nil (st : St) : litU st [] = [] := rfl
@[simp] theorem litU_cons (st : St) (n : Nat) (l : List Nat) : litU st (n :: l) = (n, st.usd n) :: litU st l := rfl
@[simp] theorem opnL_nil (st : St) : st.opnL [] = st := rfl
@[simp] theorem opnL_cons (st : St) (n : Nat) (ns : List Nat) : st.opnL (n :: ns) = (opn1 st n (st.blk n)).opnL ns := rfl
def St.opnS (st : St) (n : Nat) (B : Blk) : St := ⟨fun u => subA n B (st.val u), opnB n B st.blk, st.usd⟩
@[simp] theorem opn1_some (st : St) (n : Nat) (B : Blk) : opn1 st n (some B) = if pureK B then st.opnS n (fixK B) else st := rfl
@[simp] theorem opn1_none (st : St) (n : Nat) : opn1 st n none = st := rfl
@[simp] theorem opnS_val (st : St) (n : Nat) (B : Blk) (u : Nat) : (st.opnS n B).val u = subA n B (st.val u) := rfl
@[simp] theorem opnS_blk (st : St) (n : Nat) (B : Blk) (m : Nat) : (st.opnS n B).blk m = if m = n then none else (st.blk m).map (subK n B) := rfl
@[simp] theorem opnS_usd (st : St) (n : Nat) (B : Blk) (m : Nat) : (st.opnS n B).usd m = st.usd m := rfl
@[simp] theorem rootsOf_nil (t : Nat) : rootsOf [] t = [] := rfl
@[simp] theorem rootsOf_cons (a : Nat) (r : List Nat) (l : List (Nat × List Nat)) (t : Nat) : rootsOf ((a, r) :: l) t = if t = a then r else rootsOf l t := rfl
@[simp] theorem ownL_nil (st : St) : st.ownL [] = st := rfl
@[simp] theorem ownL_cons (st : St) (o : Own) (l : List Own) : st.ownL (o :: l) = (st.own1 o).ownL l := rfl
@[simp] theorem own1_slot (st : St) (t m : Nat) (E : TypeId) : st.own1 (.slot t m E) = ownV st t m E (st.val t) := rfl
@[simp] theorem own1_cell (st : St) (n off m : Nat) (E : TypeId) : st.own1 (.cell n off m E) = ownC st n off m E (st.blk n) := rfl
@[simp] theorem ownC_box (st : St) (n off m : Nat) (E T : TypeId) (cs : List AV) : ownC st n off m E (some (.box T cs)) = ownD st n off m E T cs (nth .dead cs off) := by rw [← nth_eq]; rfl
@[simp] theorem sgL_nil (st : St) : sgL st [] = [] := rfl
@[simp] theorem sgL_cons (st : St) (g : Sg) (l : List Sg) : sgL st (g :: l) = sg1 st g ++ sgL st l := rfl
@[simp] theorem sg1_keep (st : St) (n : Nat) : sg1 st (.keep n) = [(n, n)] := rfl
@[simp] theorem sg1_slot (st : St) (t m : Nat) : sg1 st (.slot t m) = toN m (nameA (st.val t)) := rfl
@[simp] theorem sg1_cell (st : St) (n off m : Nat) : sg1 st (.cell n off m) = toN m (nameC off (st.blk n)) := rfl
@[simp] theorem nameC_box (off : Nat) (T : TypeId) (cs : List AV) : nameC off (some (.box T cs)) = nameA (nth .dead cs off) := by rw [← nth_eq]; rfl
@[simp] theorem toN_nil (m : Nat) : toN m [] = [] := rfl
@[simp] theorem toN_cons (m k : Nat) (l : List Nat) : toN m (k :: l) = (k, m) :: toN m l := rfl
@[simp] theorem dom_nil : dom [] = [] := rfl
@[simp] theorem dom_cons (a b : Nat) (l : List (Nat × Nat)) : dom ((a, b) :: l) = a :: dom l := rfl
@[simp] theorem edge_eq (ow : List Own) (sg : List Sg) (kp : List Nat) (st : St) : edge ow sg kp st = relab (sgL (st.ownL ow) sg) kp (st.ownL ow) := rfl
def prB (σ : List (Nat × Nat)) : List Nat → Bool
  | [] => true
  | n :: l => memP n σ && prB σ l
where memP (n : Nat) : List (Nat × Nat) → Bool
  | [] => false
  | p :: l => (p.1 == n && p.2 == n) || memP n l
@[simp] theorem prB_nil (σ : List (Nat × Nat)) : prB σ [] = true := rfl
@[simp] theorem prB_cons (σ : List (Nat × Nat)) (n : Nat) (l : List Nat) : prB σ (n :: l) = (prB.memP n σ && prB σ l) := rfl
@[simp] theorem memP_nil (n : Nat) : prB.memP n [] = false := rfl
@[simp] theorem memP_cons (n a b : Nat) (l : List (Nat × Nat)) : prB.memP n ((a, b) :: l) = ((a == n && b == n) || prB.memP n l) := rfl
theorem memP_eq (n : Nat) : ∀ σ : List (Nat × Nat), σ.contains (n, n) = prB.memP n σ
  | [] => rfl
  | p :: l => by
    rw [List.contains_cons, memP_eq n l]
    obtain ⟨a, b⟩ := p
    simp only [prB.memP]
    congr 1
    rw [show ((n, n) == (a, b)) = (n == a && n == b) from rfl, Bool.beq_comm (a := n) (b := a), Bool.beq_comm (a := n) (b := b)]
theorem prB_eq (σ : List (Nat × Nat)) : ∀ K : List Nat, (K.all fun n => σ.contains (n, n)) = prB σ K
  | [] => rfl
  | n :: l => by rw [List.all_cons, prB_eq σ l, memP_eq]; rfl
@[simp] theorem edgeOk_eq (K : List Nat) (ow : List Own) (sg : List Sg) (st : St) : edgeOk K ow sg st = sgOk K (sgL (st.ownL ow) sg) := rfl
@[simp] theorem sgOk_eq (K : List Nat) (σ : List (Nat × Nat)) : sgOk K σ = (ndB (fN σ) && ndB (fM σ) && prB σ K) := by rw [sgOk, fN_eq, fM_eq, prB_eq]
@[simp] theorem relab_eq (σ : List (Nat × Nat)) (kp : List Nat) (st : St) : relab σ kp st = St.asc (relV st σ kp) (relB st σ σ) (relU σ) false := rfl
@[simp] theorem relV_nil (st : St) (σ : List (Nat × Nat)) : relV st σ [] = [] := rfl
@[simp] theorem relV_cons (st : St) (σ : List (Nat × Nat)) (t : Nat) (l : List Nat) : relV st σ (t :: l) = (t, relA σ (st.val t)) :: relV st σ l := rfl
@[simp] theorem relB_nil (st : St) (σ : List (Nat × Nat)) : relB st σ [] = [] := rfl
@[simp] theorem relB_cons (st : St) (σ : List (Nat × Nat)) (a b : Nat) (l : List (Nat × Nat)) : relB st σ ((a, b) :: l) = relK σ b (relB st σ l) (st.blk a) := rfl
@[simp] theorem relK_some (σ : List (Nat × Nat)) (m : Nat) (r : List (Nat × Blk)) (B : Blk) : relK σ m r (some B) = if subset (refsK B) (dom σ) then (m, fixK (renK (asN σ) B)) :: r else r := rfl
@[simp] theorem relU_nil : relU [] = [] := rfl
@[simp] theorem relU_cons (a b : Nat) (l : List (Nat × Nat)) : relU ((a, b) :: l) = (b, true) :: relU l := rfl
@[simp] theorem ownV_nl (st : St) (t m : Nat) (E : TypeId)  : ownV st t m E (AV.nl) = (if st.usd m then st else (((st.setB m (some (.row E []))).use m).putv t (.rw m 0 0))) := rfl
@[simp] theorem ownV_rw (st : St) (t m : Nat) (E : TypeId) (n lo len : Nat) : ownV st t m E (AV.rw n lo len) = st := rfl
@[simp] theorem ownD_nl (st : St) (n' off' m' : Nat) (E T : TypeId) (cs' : List AV)  : ownD st n' off' m' E T cs' (AV.nl) = (if st.usd m' then st else (((st.setB m' (some (.row E []))).use m').setB n' (some (.box T (spliceL cs' off' [.rw m' 0 0]))))) := rfl
@[simp] theorem ownD_rw (st : St) (n' off' m' : Nat) (E T : TypeId) (cs' : List AV) (n lo len : Nat) : ownD st n' off' m' E T cs' (AV.rw n lo len) = st := rfl
@[simp] theorem nameA_sl  (es : List (List AV)) : nameA (AV.sl es) = [] := rfl
@[simp] theorem nameA_ref  (n off : Nat) : nameA (AV.ref n off) = [n] := rfl
@[simp] theorem nameA_rw  (n lo len : Nat) : nameA (AV.rw n lo len) = [n] := rfl
@[simp] theorem relA_imm (σ : List (Nat × Nat)) (v : Value) : relA σ (AV.imm v) = (AV.imm v) := (by simp [relA])
@[simp] theorem relA_sl (σ : List (Nat × Nat)) (es : List (List AV)) : relA σ (AV.sl es) = (AV.sl es) := (by simp [relA])
@[simp] theorem relA_ptr (σ : List (Nat × Nat)) (cs : List AV) : relA σ (AV.ptr cs) = (AV.ptr cs) := (by simp [relA])
@[simp] theorem relA_agg (σ : List (Nat × Nat)) (cs : List AV) : relA σ (AV.agg cs) = (if subset (refsL cs) (dom σ) then .agg (fixL (renL (asN σ) cs)) else .dead) := (by simp [relA])
@[simp] theorem relA_ref (σ : List (Nat × Nat)) (n off : Nat) : relA σ (AV.ref n off) = (if memN n (dom σ) then .ref (asN σ n) off else .dead) := (by simp [relA])
@[simp] theorem relA_dead (σ : List (Nat × Nat))  : relA σ (AV.dead) = (AV.dead) := (by simp [relA])
@[simp] theorem relA_rw (σ : List (Nat × Nat)) (n lo len : Nat) : relA σ (AV.rw n lo len) = (if memN n (dom σ) then .rw (asN σ n) lo len else .dead) := (by simp [relA])
@[simp] theorem relA_fnc (σ : List (Nat × Nat)) (g : Nat) (cs : List AV) : relA σ (AV.fnc g cs) = (if subset (refsL cs) (dom σ) then .fnc g (renL (asN σ) cs) else .dead) := (by simp [relA])
@[simp] theorem ev_move (P : Program) (st : St) (x : Operand) : ev P st (.move x) = st.get x := rfl
@[simp] theorem evc_move (P : Program) (st : St) (y : Bool) (x : Operand) : evc P st y (.move x) = st.ok y x := rfl
@[simp] theorem ev_assign (P : Program) (st : St) (x : Operand) : ev P st (.assign x) = st.get x := rfl
@[simp] theorem evc_assign (P : Program) (st : St) (y : Bool) (x : Operand) : evc P st y (.assign x) = st.ok y x := rfl
@[simp] theorem ev_pick (P : Program) (st : St) (c a b : Operand) : ev P st (.pick c a b) = pickA (st.get c) (st.get a) (st.get b) := rfl
@[simp] theorem evc_pick (P : Program) (st : St) (y : Bool) (c a b : Operand) : evc P st y (.pick c a b) = (st.ok y c ∧ pickC st y a b (st.get c) (st.get a) (st.get b)) := rfl
@[simp] theorem ev_nilCheck (P : Program) (st : St) (x : Operand) : ev P st (.nilCheck x) = st.get x := rfl
@[simp] theorem evc_nilCheck (P : Program) (st : St) (y : Bool) (x : Operand) : evc P st y (.nilCheck x) = (st.ok y x ∧ adrC (st.get x)) := rfl
@[simp] theorem ev_load (P : Program) (st : St) (T : TypeId) (x : Operand) : ev P st (.load T x) = ldA P T (st.at (st.get x)) := rfl
@[simp] theorem evc_load (P : Program) (st : St) (y : Bool) (T : TypeId) (x : Operand) : evc P st y (.load T x) = (st.ok y x ∧ st.atC y (st.get x) ∧ (y = true → ldC P T (st.at (st.get x)))) := rfl
@[simp] theorem ev_fieldAddr (P : Program) (st : St) (S : TypeId) (x : Operand) (f : Nat) : ev P st (.fieldAddr S x f) = fadA (fldP P S f) (st.get x) := rfl
@[simp] theorem evc_fieldAddr (P : Program) (st : St) (y : Bool) (S : TypeId) (x : Operand) (f : Nat) : evc P st y (.fieldAddr S x f) = (st.ok y x ∧ fadC P (fldP P S f) (st.get x)) := rfl
@[simp] theorem ev_indexAddr (P : Program) (st : St) (S : TypeId) (x i : Operand) : ev P st (.indexAddr S x i) = idxA (st.get i) (st.get x) := rfl
@[simp] theorem evc_indexAddr (P : Program) (st : St) (y : Bool) (S : TypeId) (x i : Operand) : evc P st y (.indexAddr S x i) = (st.ok y x ∧ st.ok y i ∧ isIntA (st.get i) ∧ onO (elemP P S) fun e => infP P e = true ∧ idxC P st y (st.get i) e (st.get x)) := (by rw [← onO_eq]; rfl)
@[simp] theorem ev_slice (P : Program) (st : St) (S : TypeId) (x : Operand) (lo hi : Option Operand) : ev P st (.slice S x lo hi none) = sliceA st lo hi (st.get x) := rfl
@[simp] theorem evc_slice (P : Program) (st : St) (y : Bool) (S : TypeId) (x : Operand) (lo hi : Option Operand) : evc P st y (.slice S x lo hi none) = (st.ok y x ∧ sliceC P st y S lo hi (st.get x)) := (by simp only [evc, Option.isNone_none, true_and])
@[simp] theorem ev_binOp (P : Program) (st : St) (op : BinOp) (T : TypeId) (x z : Operand) (u : TypeId) : ev P st (.binOp op T x z u) = binX op (st.get x) (st.get z) := rfl
@[simp] theorem evc_binOp (P : Program) (st : St) (y : Bool) (op : BinOp) (T : TypeId) (x z : Operand) (u : TypeId) : evc P st y (.binOp op T x z u) = (st.ok y x ∧ st.ok y z ∧ binXC P op T (isConstO x || isConstO z) (st.get x) (st.get z)) := rfl
@[simp] theorem ev_unOp (P : Program) (st : St) (u : UnOp) (T : TypeId) (x : Operand) : ev P st (.unOp u T x) = unA u (st.get x) := rfl
@[simp] theorem evc_unOp (P : Program) (st : St) (y : Bool) (u : UnOp) (T : TypeId) (x : Operand) : evc P st y (.unOp u T x) = (st.ok y x ∧ unC u (st.get x)) := rfl
@[simp] theorem ev_makeInterface (P : Program) (st : St) (T : TypeId) (x : Operand) : ev P st (.makeInterface T x) = .ifc T (st.get x) := rfl
@[simp] theorem evc_makeInterface (P : Program) (st : St) (y : Bool) (T : TypeId) (x : Operand) : evc P st y (.makeInterface T x) = (st.ok y x ∧ ifc0 P T) := rfl
@[simp] theorem ev_extract (P : Program) (st : St) (x : Operand) (j : Nat) : ev P st (.extract x j) = tupA j (st.get x) := rfl
@[simp] theorem evc_extract (P : Program) (st : St) (y : Bool) (x : Operand) (j : Nat) : evc P st y (.extract x j) = (st.ok y x ∧ tupC j (st.get x)) := rfl
@[simp] theorem ev_build (P : Program) (st : St) (T : TypeId) (l : List (Nat × Operand)) : ev P st (.build T (List.toArray l)) = bldA st l (zplP P T) := rfl
@[simp] theorem evc_build (P : Program) (st : St) (y : Bool) (T : TypeId) (l : List (Nat × Operand)) : evc P st y (.build T (List.toArray l)) = bldC st y l (zplP P T) := rfl
@[simp] theorem ev_typeAssert (P : Program) (st : St) (x : Operand) (S T : TypeId) (b : Bool) : ev P st (.typeAssert x S T b) = tasA T b (zroP P T) (st.get x) := rfl
@[simp] theorem evc_typeAssert (P : Program) (st : St) (y : Bool) (x : Operand) (S T : TypeId) (b : Bool) : evc P st y (.typeAssert x S T b) = (st.ok y x ∧ tasC P T b (st.get x)) := rfl
@[simp] theorem ev_makeFunc (P : Program) (st : St) (f : FuncId) (l : List Operand) : ev P st (.makeFunc (.func f) #[] (List.toArray l)) = .fnc f (getL st l) := (by simp only [ev, getL_eq])
@[simp] theorem evc_makeFunc (P : Program) (st : St) (y : Bool) (f : FuncId) (l : List Operand) : evc P st y (.makeFunc (.func f) #[] (List.toArray l)) = okL st y l := (by simp only [evc, okL_iff]; simp)
@[simp] theorem ev_len (P : Program) (st : St) (x : Operand) (T : TypeId) : ev P st (.call ⟨.builtin .len, #[x], #[T]⟩) = lenA (st.get x) := rfl
@[simp] theorem evc_len (P : Program) (st : St) (y : Bool) (x : Operand) (T : TypeId) : evc P st y (.call ⟨.builtin .len, #[x], #[T]⟩) = (st.ok y x ∧ lenC P T (st.get x)) := rfl
section
variable {P : Program} {N : Nat} {h : Hint} {rts : List (Nat × List Nat)}
@[simp] theorem wF_skip (Q : Exit → St → Prop) (tg) (st : St) : wFt P N h .skip Q tg st = Q .normal st := rfl
@[simp] theorem wF_regF (id : Nat) (l : List Oper) (Q : Exit → St → Prop) (tg) (st : St) : wFt P N h (.region id (List.toArray l) false) Q tg st = wRt P N (dstA l) l (fun s => Q .normal (lit h.nv h.nb s)) .mk (st.opnL (rootsOf h.fz id)) := rfl
@[simp] theorem wF_regT (id : Nat) (l : List Oper) (Q : Exit → St → Prop) (tg) (st : St) : wFt P N h (.region id (List.toArray l) true) Q tg st = wDt P N h.rts (dstA l) l (fun s => Q .normal (lit h.nv h.nb s)) .mk (st.opnL (rootsOf h.fz id)) := rfl
def seqT (P : Program) (N : Nat) (h : Hint) (y : Code) (Q : Exit → St → Prop) (_ : Tag (y, Q)) (e : Exit) (s : St) : Prop := seqK (fun _ => wX P N h y) y Q e s
@[simp] theorem seqT_normal (y : Code) (Q : Exit → St → Prop) (tg) (s : St) : seqT P N h y Q tg .normal s = wFt P N h y Q .mk s := rfl
@[simp] theorem seqT_ret (y : Code) (Q : Exit → St → Prop) (tg) (s : St) : seqT P N h y Q tg .ret s = Q .ret s := rfl
@[simp] theorem seqT_exit (y : Code) (Q : Exit → St → Prop) (tg) (id : Nat) (s : St) : seqT P N h y Q tg (.exit id) s = Q (.exit id) s := rfl
@[simp] theorem wF_seq (x y : Code) (Q : Exit → St → Prop) (tg) (st : St) : wFt P N h (.seq x y) Q tg st = wFt P N h x (seqT P N h y Q .mk) .mk st := rfl
def blkT (id : Nat) (Q : Exit → St → Prop) (_ : Tag Q) (e : Exit) (s : St) : Prop := blkK id Q e s
@[simp] theorem blkT_normal (id : Nat) (Q : Exit → St → Prop) (tg) (s : St) : blkT id Q tg .normal s = Q .normal s := rfl
@[simp] theorem blkT_ret (id : Nat) (Q : Exit → St → Prop) (tg) (s : St) : blkT id Q tg .ret s = Q .ret s := rfl
@[simp] theorem blkT_exit (id id' : Nat) (Q : Exit → St → Prop) (tg) (s : St) : blkT id Q tg (.exit id') s = if id' = id then Q .normal s else Q (.exit id') s := rfl
@[simp] theorem wF_block (id : Nat) (x : Code) (Q : Exit → St → Prop) (tg) (st : St) : wFt P N h (.block id x) Q tg st = wFt P N h x (blkT id Q .mk) .mk st := rfl
@[simp] theorem wF_exit (id : Nat) (Q : Exit → St → Prop) (tg) (st : St) : wFt P N h (.exit id) Q tg st = Q (.exit id) st := rfl
@[simp] theorem wF_ret (Q : Exit → St → Prop) (tg) (st : St) : wFt P N h .ret Q tg st = Q .ret st := rfl
def loopT {α : Type} (K : List Nat) (ow : List Own) (sg : List Sg) (kp : List Nat) (S : α → St) (I : α → Prop) (m : α → Nat) (n : Nat) (Q : Exit → St → Prop) (_ : Tag (S, I, m, n, Q)) (e : Exit) (s : St) : Prop := loopK K ow sg kp S I m n Q e s
@[simp] theorem loopT_normal {α : Type} (K : List Nat) (ow : List Own) (sg : List Sg) (kp : List Nat) (S : α → St) (I : α → Prop) (m : α → Nat) (n : Nat) (Q : Exit → St → Prop) (tg) (s : St) : loopT K ow sg kp S I m n Q tg .normal s = (edgeOk K ow sg s = true ∧ ∃ a, edge ow sg kp s = S a ∧ I a ∧ m a < n) := rfl
@[simp] theorem loopT_ret {α : Type} (K : List Nat) (ow : List Own) (sg : List Sg) (kp : List Nat) (S : α → St) (I : α → Prop) (m : α → Nat) (n : Nat) (Q : Exit → St → Prop) (tg) (s : St) : loopT K ow sg kp S I m n Q tg .ret s = Q .ret s := rfl
@[simp] theorem loopT_exit {α : Type} (K : List Nat) (ow : List Own) (sg : List Sg) (kp : List Nat) (S : α → St) (I : α → Prop) (m : α → Nat) (n : Nat) (Q : Exit → St → Prop) (tg) (id : Nat) (s : St) : loopT K ow sg kp S I m n Q tg (.exit id) s = Q (.exit id) s := rfl
def wL (P : Program) (N : Nat) (h : Hint) (x : Code) (Q : Exit → St → Prop) (_ : Tag (x, Q)) (st : St) : Prop := wX P N h (.loop x) Q st
@[simp] theorem wF_loopL (x : Code) (Q : Exit → St → Prop) (tg) (st : St) : wFt P N h (.loop x) Q tg st = wL P N h x Q .mk st := rfl
theorem wF_loop {α : Type} {x : Code} {Q : Exit → St → Prop} (ow : List Own) (sg : List Sg) (kp : List Nat) (S : α → St) (I : α → Prop) (m : α → Nat) (a0 : α) {st : St} (tg : Tag (x, Q)) (hok : edgeOk h.K ow sg st = true) (he : edge ow sg kp st = S a0) (h0 : I a0) (hr : ∀ a, I a → wFt P N h x (loopT h.K ow sg kp S I m (m a) Q .mk) .mk (S a)) : wL P N h x Q tg st :=
  ⟨ow, sg, kp, α, S, I, m, ⟨hok, a0, he, h0⟩, hr⟩
theorem putv_same {st : St} {t : Nat} {b : Bool} (h : st.val t = .imm (.bool b)) : st.putv t (.imm (.bool b)) = st := by
  refine St.ext' (fun u => ?_) (fun _ => rfl) (fun _ => rfl)
  show (if u = t then _ else _) = _
  by_cases e : u = t
  · subst e; rw [if_pos rfl, h]
  · rw [if_neg e]
def condT (P : Program) (N : Nat) (h : Hint) (t : Nat) (x y : Code) (Q : Exit → St → Prop) (_ : Tag (x, y, Q)) (st : St) : AV → Prop
  | .imm (.bool b) => (b = true → wFt P N h x Q .mk (st.putv t (.imm (.bool true)))) ∧ (b = false → wFt P N h y Q .mk (st.putv t (.imm (.bool false))))
  | a => okV true a ∧ onB (unC' a) fun b => (b = true → wFt P N h x Q .mk st) ∧ (b = false → wFt P N h y Q .mk st)
@[simp] theorem condT_b (t : Nat) (x y : Code) (Q : Exit → St → Prop) (tg) (st : St) (b : Bool) : condT P N h t x y Q tg st (.imm (.bool b)) = ((b = true → wFt P N h x Q .mk (st.putv t (.imm (.bool true)))) ∧ (b = false → wFt P N h y Q .mk (st.putv t (.imm (.bool false))))) := rfl
@[simp] theorem wF_cond (t : Nat) (x y : Code) (Q : Exit → St → Prop) (tg) (st : St) : wFt P N h (.cond (.tmp t) x y) Q tg st = condT P N h t x y Q .mk st (st.val t) := by
  have h0 : wFt P N h (.cond (.tmp t) x y) Q tg st = (st.ok true (.tmp t) ∧ onB (st.get (.tmp t)) fun b => (b = true → wX P N h x Q st) ∧ (b = false → wX P N h y Q st)) := rfl
  rw [h0, ok_tmp, get_tmp]
  cases hv : st.val t with
  | imm v =>
    cases v with
    | bool b =>
      simp only [condT, unC_imm, okV_imm, onB_bool, true_and]
      cases b
      · simp [putv_same hv, wFt]
      · simp [putv_same hv, wFt]
    | _ => rfl
  | _ => rfl
@[simp] theorem wR_nil (ds : List (Option Nat)) (Q : St → Prop) (tg) (st : St) : wRt P N ds [] Q tg st = Q st := rfl
@[simp] theorem wD_nil (ds : List (Option Nat)) (Q : St → Prop) (tg) (st : St) : wDt P N rts ds [] Q tg st = Q st := rfl
@[simp] theorem rdL_nil (st : St) : rdL rts st [] = True := rfl
@[simp] theorem rdL_tmp (st : St) (t : Nat) (l : List Operand) : rdL rts st (.tmp t :: l) = (subset (refsA (st.val t)) (rootsOf rts t) = true ∧ rdL rts st l) := rfl
@[simp] theorem rdL_const (st : St) (v : Value) (l : List Operand) : rdL rts st (.const v :: l) = rdL rts st l := rfl
@[simp] theorem rdL_func (st : St) (g : FuncId) (l : List Operand) : rdL rts st (.func g :: l) = rdL rts st l := rfl
@[simp] theorem rdG_some (st : St) (t : Nat) : rdG rts st (some t) = (subset (refsA (st.val t)) (rootsOf rts t) = true) := rfl
@[simp] theorem rdG_none (st : St) : rdG rts st none = True := rfl
@[simp] theorem fstL_nil : fstL [] = [] := rfl
@[simp] theorem fstL_cons (n : Nat) (b : Option Blk) (l : List (Nat × Option Blk)) : fstL ((n, b) :: l) = n :: fstL l := rfl
@[congr] theorem effB_congr (W : List Nat) (dst : Option Nat) {e e' : Eff} (h : e = e') : effB W dst e = effB W dst e' := by rw [h]
def rtL (rts : List (Nat × List Nat)) : List Operand → List Nat
  | [] => []
  | .tmp t :: l => rootsOf rts t ++ rtL rts l
  | _ :: l => rtL rts l
@[simp] theorem rtL_nil : rtL rts [] = [] := rfl
@[simp] theorem rtL_tmp (t : Nat) (l : List Operand) : rtL rts (.tmp t :: l) = rootsOf rts t ++ rtL rts l := rfl
@[simp] theorem rtL_const (v : Value) (l : List Operand) : rtL rts (.const v :: l) = rtL rts l := rfl
@[simp] theorem rtL_func (g : FuncId) (l : List Operand) : rtL rts (.func g :: l) = rtL rts l := rfl
theorem rtL_eq : ∀ l : List Operand, (l.flatMap opT).flatMap (rootsOf rts) = rtL rts l
  | [] => rfl
  | .tmp t :: l => by rw [List.flatMap_cons, List.flatMap_append, rtL_eq l]; simp [opT, rtL]
  | .const _ :: l => by rw [List.flatMap_cons, List.flatMap_append, rtL_eq l]; simp [opT, rtL]
  | .global _ :: l => by rw [List.flatMap_cons, List.flatMap_append, rtL_eq l]; simp [opT, rtL]
  | .func _ :: l => by rw [List.flatMap_cons, List.flatMap_append, rtL_eq l]; simp [opT, rtL]
@[simp] theorem newN_some (d : Nat) : newN (some d) = [d, d + 10000, d + 20000, d + 30000] := rfl
@[simp] theorem newN_none : newN none = [] := rfl
theorem namesO_eq {ds : List (Option Nat)} {o : Oper} (hg : o.guard = none) {xs : List Operand} (hx : o.op.operands.toList = xs) : namesO rts ds o = rtL rts xs ++ newN o.dst := by
  unfold namesO opnds guardS
  rw [hg, hx, List.append_nil, rtL_eq]
@[simp] theorem endX_r (rs : List ResultVar) (a : AV) (s : St) : endX P rs a .ret s = endPX P s a rs := rfl
@[congr] theorem endX_congr (P : Program) (rs : List ResultVar) (a : AV) (e : Exit) {s s' : St} (h : s = s') : endX P rs a e s = endX P rs a e s' := by rw [h]
@[simp] theorem endPX_eq (s : St) (a : AV) (rs : List ResultVar) : endPX P s a rs = (resCL P s rs ∧ endY P s a (resAL P s rs) (rch s.blk (refsL (resAL P s rs)))) := rfl
@[simp] theorem endY_eq (s : St) (a : AV) (as : List AV) (ns : List Nat) : endY P s a as ns = (frzOk s.blk ns ∧ pureL (frzM s.blk ns as) = true ∧ packA (fixL (frzM s.blk ns as)) = a) := rfl
@[simp] theorem resCL_nil (s : St) : resCL P s [] = True := rfl
@[simp] theorem resCL_cons (s : St) (r : ResultVar) (l : List ResultVar) : resCL P s (r :: l) = (resC P s r ∧ resCL P s l) := rfl
@[simp] theorem resAL_nil (s : St) : resAL P s [] = [] := rfl
@[simp] theorem resAL_cons (s : St) (r : ResultVar) (l : List ResultVar) : resAL P s (r :: l) = resA P s r :: resAL P s l := rfl
@[simp] theorem resA_tmp (s : St) (t : Nat) : resA P s (.tmp t) = unC' (s.val t) := rfl
@[simp] theorem resA_cell (s : St) (t : Nat) (T : TypeId) : resA P s (.cell t T) = ldA P T (s.at (unC' (s.val t))) := rfl
@[simp] theorem resC_tmp (s : St) (t : Nat) : resC P s (.tmp t) = okV true (s.val t) := rfl
@[simp] theorem resC_cell (s : St) (t : Nat) (T : TypeId) : resC P s (.cell t T) = (okV true (s.val t) ∧ s.atC true (unC' (s.val t)) ∧ ldC P T (s.at (unC' (s.val t)))) := rfl
@[simp] theorem packA_one (a : AV) : packA [a] = a := rfl
@[simp] theorem packA_two (a b : AV) (l : List AV) : packA (a :: b :: l) = .tup (a :: b :: l) := rfl
@[simp] theorem endH_r (fr : List Nat) (ow : List Own) (sg : List Sg) (K : List Nat) (rs : List ResultVar) (a : AV) (H' : List (Nat × Blk)) (s : St) : endH P fr ow sg K rs a H' .ret s = endHs P fr ow sg K rs a H' s := rfl
def endH2 (P : Program) (K : List Nat) (rs : List ResultVar) (a : AV) (H' : List (Nat × Blk)) (s : St) (σ : List (Nat × Nat)) : Prop :=
  sgOk K σ = true ∧ resCL P s rs ∧ subset (refsL (resAL P s rs)) (dom σ) = true ∧ packA (fixL (renL (asN σ) (resAL P s rs))) = a ∧ relB s σ σ = H'
@[simp] theorem endHs_eq (fr : List Nat) (ow : List Own) (sg : List Sg) (K : List Nat) (rs : List ResultVar) (a : AV) (H' : List (Nat × Blk)) (s : St) : endHs P fr ow sg K rs a H' s = endH2 P K rs a H' ((s.opnL fr).ownL ow) (sgL ((s.opnL fr).ownL ow) sg) := rfl
@[simp] theorem endH2_eq (K : List Nat) (rs : List ResultVar) (a : AV) (H' : List (Nat × Blk)) (s : St) (σ : List (Nat × Nat)) : endH2 P K rs a H' s σ = (sgOk K σ = true ∧ resCL P s rs ∧ subset (refsL (resAL P s rs)) (dom σ) = true ∧ packA (fixL (renL (asN σ) (resAL P s rs))) = a ∧ relB s σ σ = H') := rfl
theorem opsB (P' : Program) (T : TypeId) (l : List (Nat × Operand)) : (Op.build T (List.toArray l)).operands.toList = sndL l := by simp [Op.operands, sndL_eq]
theorem opsC (f : Operand) (xs : List Operand) (ats : Array TypeId) : (Op.call ⟨.value f, List.toArray xs, ats⟩).operands.toList = f :: xs := by simp [Op.operands, Call.operands]
@[simp] theorem effB_mk (W : List Nat) (dst d : Option Nat) (a : AV) (bs : List (Nat × Option Blk)) (us : List Nat) : effB W dst ⟨d, a, bs, us⟩ = (d = dst ∧ subset (fstL bs) W = true ∧ subset us W = true) := rfl
variable {ty : TypeId} {pos : String} {aft : Array Edge} {rest : List Oper} {Q : St → Prop} {st : St} {d : Nat} {ds : List (Option Nat)} {ll : List Oper}
@[simp] theorem wR_move (x : Operand) {tg : _} : wRt P N ds (⟨some d, (Op.move x), ty, pos, aft, none⟩ :: rest) Q tg st = (d < N ∧ evc P st true (.move x) ∧ wRt P N ds rest Q .mk (st.putv d (ev P st (.move x)))) := rfl
@[simp] theorem wD_move (x : Operand) {tg : _} : wDt P N rts ds (⟨some d, (Op.move x), ty, pos, aft, none⟩ :: rest) Q tg st = (rdL rts st [x] ∧ rdG rts st none ∧ (d < N ∧ evc P st true (.move x) ∧ wDt P N rts ds rest Q .mk (st.putv d (ev P st (.move x))))) := by
  have e : (Op.move x).operands.toList = [x] := rfl
  show (rdL rts st (Op.move x).operands.toList ∧ _ ∧ _) = _
  rw [e]
  refine congrArg _ (congrArg _ ?_)
  show (onD (some d) fun d => _ ∧ _ ∧ (effB _ _ _ ∧ _)) = _
  simp only [onD, effB, fstL, subset, List.all_nil, true_and, St.app]
  rfl
@[simp] theorem wR_moveG (x : Operand) (j : Nat) (want : Bool) {tg : _} : wRt P N (dstA ll) (⟨some d, (Op.move x), ty, pos, aft, some (j, want)⟩ :: rest) Q tg st = (onO (yA (dstA ll) st j want) fun y => d < N ∧ evc P st y (.move x) ∧ wRt P N (dstA ll) rest Q .mk (st.putv d (.cnd y (ev P st (.move x))))) := rfl
@[simp] theorem wD_moveG (x : Operand) (j : Nat) (want : Bool) {tg : _} : wDt P N rts (dstA ll) (⟨some d, (Op.move x), ty, pos, aft, some (j, want)⟩ :: rest) Q tg st = (rdL rts st [x] ∧ rdG rts st (dstL ll .mk j) ∧ (onO (yA (dstA ll) st j want) fun y => d < N ∧ evc P st y (.move x) ∧ wDt P N rts (dstA ll) rest Q .mk (st.putv d (.cnd y (ev P st (.move x)))))) := by
  have e : (Op.move x).operands.toList = [x] := rfl
  show (rdL rts st (Op.move x).operands.toList ∧ _ ∧ _) = _
  rw [e]
  refine congrArg _ (congrArg _ ?_)
  show onO (yA (dstA ll) st j want) _ = onO (yA (dstA ll) st j want) _
  cases yA (dstA ll) st j want with
  | none => rfl
  | some y =>
    simp only [onO, onD, isGoCall, effB, fstL, subset, List.all_nil, true_and, St.app]
    rfl
@[simp] theorem wR_assign (x : Operand) {tg : _} : wRt P N ds (⟨some d, (Op.assign x), ty, pos, aft, none⟩ :: rest) Q tg st = (d < N ∧ evc P st true (.assign x) ∧ wRt P N ds rest Q .mk (st.putv d (ev P st (.assign x)))) := rfl
@[simp] theorem wD_assign (x : Operand) {tg : _} : wDt P N rts ds (⟨some d, (Op.assign x), ty, pos, aft, none⟩ :: rest) Q tg st = (rdL rts st [x] ∧ rdG rts st none ∧ (d < N ∧ evc P st true (.assign x) ∧ wDt P N rts ds rest Q .mk (st.putv d (ev P st (.assign x))))) := by
  have e : (Op.assign x).operands.toList = [x] := rfl
  show (rdL rts st (Op.assign x).operands.toList ∧ _ ∧ _) = _
  rw [e]
  refine congrArg _ (congrArg _ ?_)
  show (onD (some d) fun d => _ ∧ _ ∧ (effB _ _ _ ∧ _)) = _
  simp only [onD, effB, fstL, subset, List.all_nil, true_and, St.app]
  rfl
@[simp] theorem wR_pick (c x yy : Operand) {tg : _} : wRt P N ds (⟨some d, (Op.pick c x yy), ty, pos, aft, none⟩ :: rest) Q tg st = (d < N ∧ evc P st true (.pick c x yy) ∧ wRt P N ds rest Q .mk (st.putv d (ev P st (.pick c x yy)))) := rfl
@[simp] theorem wD_pick (c x yy : Operand) {tg : _} : wDt P N rts ds (⟨some d, (Op.pick c x yy), ty, pos, aft, none⟩ :: rest) Q tg st = (rdL rts st [c, x, yy] ∧ rdG rts st none ∧ (d < N ∧ evc P st true (.pick c x yy) ∧ wDt P N rts ds rest Q .mk (st.putv d (ev P st (.pick c x yy))))) := by
  have e : (Op.pick c x yy).operands.toList = [c, x, yy] := rfl
  show (rdL rts st (Op.pick c x yy).operands.toList ∧ _ ∧ _) = _
  rw [e]
  refine congrArg _ (congrArg _ ?_)
  show (onD (some d) fun d => _ ∧ _ ∧ (effB _ _ _ ∧ _)) = _
  simp only [onD, effB, fstL, subset, List.all_nil, true_and, St.app]
  rfl
@[simp] theorem wR_pickG (c x yy : Operand) (j : Nat) (want : Bool) {tg : _} : wRt P N (dstA ll) (⟨some d, (Op.pick c x yy), ty, pos, aft, some (j, want)⟩ :: rest) Q tg st = (onO (yA (dstA ll) st j want) fun y => d < N ∧ evc P st y (.pick c x yy) ∧ wRt P N (dstA ll) rest Q .mk (st.putv d (.cnd y (ev P st (.pick c x yy))))) := rfl
@[simp] theorem wD_pickG (c x yy : Operand) (j : Nat) (want : Bool) {tg : _} : wDt P N rts (dstA ll) (⟨some d, (Op.pick c x yy), ty, pos, aft, some (j, want)⟩ :: rest) Q tg st = (rdL rts st [c, x, yy] ∧ rdG rts st (dstL ll .mk j) ∧ (onO (yA (dstA ll) st j want) fun y => d < N ∧ evc P st y (.pick c x yy) ∧ wDt P N rts (dstA ll) rest Q .mk (st.putv d (.cnd y (ev P st (.pick c x yy)))))) := by
  have e : (Op.pick c x yy).operands.toList = [c, x, yy] := rfl
  show (rdL rts st (Op.pick c x yy).operands.toList ∧ _ ∧ _) = _
  rw [e]
  refine congrArg _ (congrArg _ ?_)
  show onO (yA (dstA ll) st j want) _ = onO (yA (dstA ll) st j want) _
  cases yA (dstA ll) st j want with
  | none => rfl
  | some y =>
    simp only [onO, onD, isGoCall, effB, fstL, subset, List.all_nil, true_and, St.app]
    rfl
@[simp] theorem wR_nilCheck (x : Operand) {tg : _} : wRt P N ds (⟨some d, (Op.nilCheck x), ty, pos, aft, none⟩ :: rest) Q tg st = (d < N ∧ evc P st true (.nilCheck x) ∧ wRt P N ds rest Q .mk (st.putv d (ev P st (.nilCheck x)))) := rfl
@[simp] theorem wD_nilCheck (x : Operand) {tg : _} : wDt P N rts ds (⟨some d, (Op.nilCheck x), ty, pos, aft, none⟩ :: rest) Q tg st = (rdL rts st [x] ∧ rdG rts st none ∧ (d < N ∧ evc P st true (.nilCheck x) ∧ wDt P N rts ds rest Q .mk (st.putv d (ev P st (.nilCheck x))))) := by
  have e : (Op.nilCheck x).operands.toList = [x] := rfl
  show (rdL rts st (Op.nilCheck x).operands.toList ∧ _ ∧ _) = _
  rw [e]
  refine congrArg _ (congrArg _ ?_)
  show (onD (some d) fun d => _ ∧ _ ∧ (effB _ _ _ ∧ _)) = _
  simp only [onD, effB, fstL, subset, List.all_nil, true_and, St.app]
  rfl
@[simp] theorem wR_nilCheckG (x : Operand) (j : Nat) (want : Bool) {tg : _} : wRt P N (dstA ll) (⟨some d, (Op.nilCheck x), ty, pos, aft, some (j, want)⟩ :: rest) Q tg st = (onO (yA (dstA ll) st j want) fun y => d < N ∧ evc P st y (.nilCheck x) ∧ wRt P N (dstA ll) rest Q .mk (st.putv d (.cnd y (ev P st (.nilCheck x))))) := rfl
@[simp] theorem wR_load (T : TypeId) (x : Operand) {tg : _} : wRt P N ds (⟨some d, (Op.load T x), ty, pos, aft, none⟩ :: rest) Q tg st = (d < N ∧ evc P st true (.load T x) ∧ wRt P N ds rest Q .mk (st.putv d (ev P st (.load T x)))) := rfl
@[simp] theorem wD_load (T : TypeId) (x : Operand) {tg : _} : wDt P N rts ds (⟨some d, (Op.load T x), ty, pos, aft, none⟩ :: rest) Q tg st = (rdL rts st [x] ∧ rdG rts st none ∧ (d < N ∧ evc P st true (.load T x) ∧ wDt P N rts ds rest Q .mk (st.putv d (ev P st (.load T x))))) := by
  have e : (Op.load T x).operands.toList = [x] := rfl
  show (rdL rts st (Op.load T x).operands.toList ∧ _ ∧ _) = _
  rw [e]
  refine congrArg _ (congrArg _ ?_)
  show (onD (some d) fun d => _ ∧ _ ∧ (effB _ _ _ ∧ _)) = _
  simp only [onD, effB, fstL, subset, List.all_nil, true_and, St.app]
  rfl
@[simp] theorem wR_loadG (T : TypeId) (x : Operand) (j : Nat) (want : Bool) {tg : _} : wRt P N (dstA ll) (⟨some d, (Op.load T x), ty, pos, aft, some (j, want)⟩ :: rest) Q tg st = (onO (yA (dstA ll) st j want) fun y => d < N ∧ evc P st y (.load T x) ∧ wRt P N (dstA ll) rest Q .mk (st.putv d (.cnd y (ev P st (.load T x))))) := rfl
@[simp] theorem wD_loadG (T : TypeId) (x : Operand) (j : Nat) (want : Bool) {tg : _} : wDt P N rts (dstA ll) (⟨some d, (Op.load T x), ty, pos, aft, some (j, want)⟩ :: rest) Q tg st = (rdL rts st [x] ∧ rdG rts st (dstL ll .mk j) ∧ (onO (yA (dstA ll) st j want) fun y => d < N ∧ evc P st y (.load T x) ∧ wDt P N rts (dstA ll) rest Q .mk (st.putv d (.cnd y (ev P st (.load T x)))))) := by
  have e : (Op.load T x).operands.toList = [x] := rfl
  show (rdL rts st (Op.load T x).operands.toList ∧ _ ∧ _) = _
  rw [e]
  refine congrArg _ (congrArg _ ?_)
  show onO (yA (dstA ll) st j want) _ = onO (yA (dstA ll) st j want) _
  cases yA (dstA ll) st j want with
  | none => rfl
  | some y =>
    simp only [onO, onD, isGoCall, effB, fstL, subset, List.all_nil, true_and, St.app]
    rfl
@[simp] theorem wR_fieldAddr (S : TypeId) (x : Operand) (f : Nat) {tg : _} : wRt P N ds (⟨some d, (Op.fieldAddr S x f), ty, pos, aft, none⟩ :: rest) Q tg st = (d < N ∧ evc P st true (.fieldAddr S x f) ∧ wRt P N ds rest Q .mk (st.putv d (ev P st (.fieldAddr S x f)))) := rfl
@[simp] theorem wD_fieldAddr (S : TypeId) (x : Operand) (f : Nat) {tg : _} : wDt P N rts ds (⟨some d, (Op.fieldAddr S x f), ty, pos, aft, none⟩ :: rest) Q tg st = (rdL rts st [x] ∧ rdG rts st none ∧ (d < N ∧ evc P st true (.fieldAddr S x f) ∧ wDt P N rts ds rest Q .mk (st.putv d (ev P st (.fieldAddr S x f))))) := by
  have e : (Op.fieldAddr S x f).operands.toList = [x] := rfl
  show (rdL rts st (Op.fieldAddr S x f).operands.toList ∧ _ ∧ _) = _
  rw [e]
  refine congrArg _ (congrArg _ ?_)
  show (onD (some d) fun d => _ ∧ _ ∧ (effB _ _ _ ∧ _)) = _
  simp only [onD, effB, fstL, subset, List.all_nil, true_and, St.app]
  rfl
@[simp] theorem wR_fieldAddrG (S : TypeId) (x : Operand) (f : Nat) (j : Nat) (want : Bool) {tg : _} : wRt P N (dstA ll) (⟨some d, (Op.fieldAddr S x f), ty, pos, aft, some (j, want)⟩ :: rest) Q tg st = (onO (yA (dstA ll) st j want) fun y => d < N ∧ evc P st y (.fieldAddr S x f) ∧ wRt P N (dstA ll) rest Q .mk (st.putv d (.cnd y (ev P st (.fieldAddr S x f))))) := rfl
@[simp] theorem wD_fieldAddrG (S : TypeId) (x : Operand) (f : Nat) (j : Nat) (want : Bool) {tg : _} : wDt P N rts (dstA ll) (⟨some d, (Op.fieldAddr S x f), ty, pos, aft, some (j, want)⟩ :: rest) Q tg st = (rdL rts st [x] ∧ rdG rts st (dstL ll .mk j) ∧ (onO (yA (dstA ll) st j want) fun y => d < N ∧ evc P st y (.fieldAddr S x f) ∧ wDt P N rts (dstA ll) rest Q .mk (st.putv d (.cnd y (ev P st (.fieldAddr S x f)))))) := by
  have e : (Op.fieldAddr S x f).operands.toList = [x] := rfl
  show (rdL rts st (Op.fieldAddr S x f).operands.toList ∧ _ ∧ _) = _
  rw [e]
  refine congrArg _ (congrArg _ ?_)
  show onO (yA (dstA ll) st j want) _ = onO (yA (dstA ll) st j want) _
  cases yA (dstA ll) st j want with
  | none => rfl
  | some y =>
    simp only [onO, onD, isGoCall, effB, fstL, subset, List.all_nil, true_and, St.app]
    rfl
@[simp] theorem wR_indexAddr (S : TypeId) (x i : Operand) {tg : _} : wRt P N ds (⟨some d, (Op.indexAddr S x i), ty, pos, aft, none⟩ :: rest) Q tg st = (d < N ∧ evc P st true (.indexAddr S x i) ∧ wRt P N ds rest Q .mk (st.putv d (ev P st (.indexAddr S x i)))) := rfl
@[simp] theorem wD_indexAddr (S : TypeId) (x i : Operand) {tg : _} : wDt P N rts ds (⟨some d, (Op.indexAddr S x i), ty, pos, aft, none⟩ :: rest) Q tg st = (rdL rts st [x, i] ∧ rdG rts st none ∧ (d < N ∧ evc P st true (.indexAddr S x i) ∧ wDt P N rts ds rest Q .mk (st.putv d (ev P st (.indexAddr S x i))))) := by
  have e : (Op.indexAddr S x i).operands.toList = [x, i] := rfl
  show (rdL rts st (Op.indexAddr S x i).operands.toList ∧ _ ∧ _) = _
  rw [e]
  refine congrArg _ (congrArg _ ?_)
  show (onD (some d) fun d => _ ∧ _ ∧ (effB _ _ _ ∧ _)) = _
  simp only [onD, effB, fstL, subset, List.all_nil, true_and, St.app]
  rfl
@[simp] theorem wR_indexAddrG (S : TypeId) (x i : Operand) (j : Nat) (want : Bool) {tg : _} : wRt P N (dstA ll) (⟨some d, (Op.indexAddr S x i), ty, pos, aft, some (j, want)⟩ :: rest) Q tg st = (onO (yA (dstA ll) st j want) fun y => d < N ∧ evc P st y (.indexAddr S x i) ∧ wRt P N (dstA ll) rest Q .mk (st.putv d (.cnd y (ev P st (.indexAddr S x i))))) := rfl
@[simp] theorem wD_indexAddrG (S : TypeId) (x i : Operand) (j : Nat) (want : Bool) {tg : _} : wDt P N rts (dstA ll) (⟨some d, (Op.indexAddr S x i), ty, pos, aft, some (j, want)⟩ :: rest) Q tg st = (rdL rts st [x, i] ∧ rdG rts st (dstL ll .mk j) ∧ (onO (yA (dstA ll) st j want) fun y => d < N ∧ evc P st y (.indexAddr S x i) ∧ wDt P N rts (dstA ll) rest Q .mk (st.putv d (.cnd y (ev P st (.indexAddr S x i)))))) := by
  have e : (Op.indexAddr S x i).operands.toList = [x, i] := rfl
  show (rdL rts st (Op.indexAddr S x i).operands.toList ∧ _ ∧ _) = _
  rw [e]
  refine congrArg _ (congrArg _ ?_)
  show onO (yA (dstA ll) st j want) _ = onO (yA (dstA ll) st j want) _
  cases yA (dstA ll) st j want with
  | none => rfl
  | some y =>
    simp only [onO, onD, isGoCall, effB, fstL, subset, List.all_nil, true_and, St.app]
    rfl
@[simp] theorem wR_slice (S : TypeId) (x : Operand) (lo hi mx : Option Operand) {tg : _} : wRt P N ds (⟨some d, (Op.slice S x lo hi mx), ty, pos, aft, none⟩ :: rest) Q tg st = (d < N ∧ evc P st true (.slice S x lo hi mx) ∧ wRt P N ds rest Q .mk (st.putv d (ev P st (.slice S x lo hi mx)))) := rfl
@[simp] theorem wR_binOp (b : BinOp) (S : TypeId) (x yy : Operand) (z : TypeId) {tg : _} : wRt P N ds (⟨some d, (Op.binOp b S x yy z), ty, pos, aft, none⟩ :: rest) Q tg st = (d < N ∧ evc P st true (.binOp b S x yy z) ∧ wRt P N ds rest Q .mk (st.putv d (ev P st (.binOp b S x yy z)))) := rfl
@[simp] theorem wD_binOp (b : BinOp) (S : TypeId) (x yy : Operand) (z : TypeId) {tg : _} : wDt P N rts ds (⟨some d, (Op.binOp b S x yy z), ty, pos, aft, none⟩ :: rest) Q tg st = (rdL rts st [x, yy] ∧ rdG rts st none ∧ (d < N ∧ evc P st true (.binOp b S x yy z) ∧ wDt P N rts ds rest Q .mk (st.putv d (ev P st (.binOp b S x yy z))))) := by
  have e : (Op.binOp b S x yy z).operands.toList = [x, yy] := rfl
  show (rdL rts st (Op.binOp b S x yy z).operands.toList ∧ _ ∧ _) = _
  rw [e]
  refine congrArg _ (congrArg _ ?_)
  show (onD (some d) fun d => _ ∧ _ ∧ (effB _ _ _ ∧ _)) = _
  simp only [onD, effB, fstL, subset, List.all_nil, true_and, St.app]
  rfl
@[simp] theorem wR_binOpG (b : BinOp) (S : TypeId) (x yy : Operand) (z : TypeId) (j : Nat) (want : Bool) {tg : _} : wRt P N (dstA ll) (⟨some d, (Op.binOp b S x yy z), ty, pos, aft, some (j, want)⟩ :: rest) Q tg st = (onO (yA (dstA ll) st j want) fun y => d < N ∧ evc P st y (.binOp b S x yy z) ∧ wRt P N (dstA ll) rest Q .mk (st.putv d (.cnd y (ev P st (.binOp b S x yy z))))) := rfl
@[simp] theorem wD_binOpG (b : BinOp) (S : TypeId) (x yy : Operand) (z : TypeId) (j : Nat) (want : Bool) {tg : _} : wDt P N rts (dstA ll) (⟨some d, (Op.binOp b S x yy z), ty, pos, aft, some (j, want)⟩ :: rest) Q tg st = (rdL rts st [x, yy] ∧ rdG rts st (dstL ll .mk j) ∧ (onO (yA (dstA ll) st j want) fun y => d < N ∧ evc P st y (.binOp b S x yy z) ∧ wDt P N rts (dstA ll) rest Q .mk (st.putv d (.cnd y (ev P st (.binOp b S x yy z)))))) := by
  have e : (Op.binOp b S x yy z).operands.toList = [x, yy] := rfl
  show (rdL rts st (Op.binOp b S x yy z).operands.toList ∧ _ ∧ _) = _
  rw [e]
  refine congrArg _ (congrArg _ ?_)
  show onO (yA (dstA ll) st j want) _ = onO (yA (dstA ll) st j want) _
  cases yA (dstA ll) st j want with
  | none => rfl
  | some y =>
    simp only [onO, onD, isGoCall, effB, fstL, subset, List.all_nil, true_and, St.app]
    rfl
@[simp] theorem wR_unOp (u : UnOp) (S : TypeId) (x : Operand) {tg : _} : wRt P N ds (⟨some d, (Op.unOp u S x), ty, pos, aft, none⟩ :: rest) Q tg st = (d < N ∧ evc P st true (.unOp u S x) ∧ wRt P N ds rest Q .mk (st.putv d (ev P st (.unOp u S x)))) := rfl
@[simp] theorem wD_unOp (u : UnOp) (S : TypeId) (x : Operand) {tg : _} : wDt P N rts ds (⟨some d, (Op.unOp u S x), ty, pos, aft, none⟩ :: rest) Q tg st = (rdL rts st [x] ∧ rdG rts st none ∧ (d < N ∧ evc P st true (.unOp u S x) ∧ wDt P N rts ds rest Q .mk (st.putv d (ev P st (.unOp u S x))))) := by
  have e : (Op.unOp u S x).operands.toList = [x] := (by first | rfl | exact opsB P _ _ | exact opsS _ _ _ | exact opsC _ _ _ | exact opsI _ _ _ _ _ | simp [Op.operands, Call.operands])
  show (rdL rts st (Op.unOp u S x).operands.toList ∧ _ ∧ _) = _
  rw [e]
  refine congrArg _ (congrArg _ ?_)
  show (onD (some d) fun d => _ ∧ _ ∧ (effB _ _ _ ∧ _)) = _
  simp only [onD, effB, fstL, subset, List.all_nil, true_and, St.app]
  rfl
@[simp] theorem wR_unOpG (u : UnOp) (S : TypeId) (x : Operand) (j : Nat) (want : Bool) {tg : _} : wRt P N (dstA ll) (⟨some d, (Op.unOp u S x), ty, pos, aft, some (j, want)⟩ :: rest) Q tg st = (onO (yA (dstA ll) st j want) fun y => d < N ∧ evc P st y (.unOp u S x) ∧ wRt P N (dstA ll) rest Q .mk (st.putv d (.cnd y (ev P st (.unOp u S x))))) := rfl
@[simp] theorem wD_unOpG (u : UnOp) (S : TypeId) (x : Operand) (j : Nat) (want : Bool) {tg : _} : wDt P N rts (dstA ll) (⟨some d, (Op.unOp u S x), ty, pos, aft, some (j, want)⟩ :: rest) Q tg st = (rdL rts st [x] ∧ rdG rts st (dstL ll .mk j) ∧ (onO (yA (dstA ll) st j want) fun y => d < N ∧ evc P st y (.unOp u S x) ∧ wDt P N rts (dstA ll) rest Q .mk (st.putv d (.cnd y (ev P st (.unOp u S x)))))) := by
  have e : (Op.unOp u S x).operands.toList = [x] := (by first | rfl | exact opsB P _ _ | exact opsS _ _ _ | exact opsC _ _ _ | exact opsI _ _ _ _ _ | simp [Op.operands, Call.operands])
  show (rdL rts st (Op.unOp u S x).operands.toList ∧ _ ∧ _) = _
  rw [e]
  refine congrArg _ (congrArg _ ?_)
  show onO (yA (dstA ll) st j want) _ = onO (yA (dstA ll) st j want) _
  cases yA (dstA ll) st j want with
  | none => rfl
  | some y =>
    simp only [onO, onD, isGoCall, effB, fstL, subset, List.all_nil, true_and, St.app]
    rfl
@[simp] theorem wR_makeInterface (S : TypeId) (x : Operand) {tg : _} : wRt P N ds (⟨some d, (Op.makeInterface S x), ty, pos, aft, none⟩ :: rest) Q tg st = (d < N ∧ evc P st true (.makeInterface S x) ∧ wRt P N ds rest Q .mk (st.putv d (ev P st (.makeInterface S x)))) := rfl
@[simp] theorem wR_extract (x : Operand) (j : Nat) {tg : _} : wRt P N ds (⟨some d, (Op.extract x j), ty, pos, aft, none⟩ :: rest) Q tg st = (d < N ∧ evc P st true (.extract x j) ∧ wRt P N ds rest Q .mk (st.putv d (ev P st (.extract x j)))) := rfl
@[simp] theorem wR_typeAssert (x : Operand) (S S' : TypeId) (b : Bool) {tg : _} : wRt P N ds (⟨some d, (Op.typeAssert x S S' b), ty, pos, aft, none⟩ :: rest) Q tg st = (d < N ∧ evc P st true (.typeAssert x S S' b) ∧ wRt P N ds rest Q .mk (st.putv d (ev P st (.typeAssert x S S' b)))) := rfl
@[simp] theorem wR_len (x : Operand) (ats : Array TypeId) {tg : _} : wRt P N ds (⟨some d, (Op.call ⟨.builtin .len, #[x], ats⟩), ty, pos, aft, none⟩ :: rest) Q tg st = (d < N ∧ evc P st true (.call ⟨.builtin .len, #[x], ats⟩) ∧ wRt P N ds rest Q .mk (st.putv d (ev P st (.call ⟨.builtin .len, #[x], ats⟩)))) := rfl
@[simp] theorem wD_len (x : Operand) (ats : Array TypeId) {tg : _} : wDt P N rts ds (⟨some d, (Op.call ⟨.builtin .len, #[x], ats⟩), ty, pos, aft, none⟩ :: rest) Q tg st = (rdL rts st [x] ∧ rdG rts st none ∧ (d < N ∧ evc P st true (.call ⟨.builtin .len, #[x], ats⟩) ∧ wDt P N rts ds rest Q .mk (st.putv d (ev P st (.call ⟨.builtin .len, #[x], ats⟩))))) := by
  have e : (Op.call ⟨.builtin .len, #[x], ats⟩).operands.toList = [x] := rfl
  show (rdL rts st (Op.call ⟨.builtin .len, #[x], ats⟩).operands.toList ∧ _ ∧ _) = _
  rw [e]
  refine congrArg _ (congrArg _ ?_)
  show (onD (some d) fun d => _ ∧ _ ∧ (effB _ _ _ ∧ _)) = _
  simp only [onD, effB, fstL, subset, List.all_nil, true_and, St.app]
  rfl
@[simp] theorem wR_lenG (x : Operand) (ats : Array TypeId) (j : Nat) (want : Bool) {tg : _} : wRt P N (dstA ll) (⟨some d, (Op.call ⟨.builtin .len, #[x], ats⟩), ty, pos, aft, some (j, want)⟩ :: rest) Q tg st = (onO (yA (dstA ll) st j want) fun y => d < N ∧ evc P st y (.call ⟨.builtin .len, #[x], ats⟩) ∧ wRt P N (dstA ll) rest Q .mk (st.putv d (.cnd y (ev P st (.call ⟨.builtin .len, #[x], ats⟩))))) := rfl
@[simp] theorem wD_lenG (x : Operand) (ats : Array TypeId) (j : Nat) (want : Bool) {tg : _} : wDt P N rts (dstA ll) (⟨some d, (Op.call ⟨.builtin .len, #[x], ats⟩), ty, pos, aft, some (j, want)⟩ :: rest) Q tg st = (rdL rts st [x] ∧ rdG rts st (dstL ll .mk j) ∧ (onO (yA (dstA ll) st j want) fun y => d < N ∧ evc P st y (.call ⟨.builtin .len, #[x], ats⟩) ∧ wDt P N rts (dstA ll) rest Q .mk (st.putv d (.cnd y (ev P st (.call ⟨.builtin .len, #[x], ats⟩)))))) := by
  have e : (Op.call ⟨.builtin .len, #[x], ats⟩).operands.toList = [x] := (by first | rfl | exact opsB P _ _ | exact opsS _ _ _ | exact opsC _ _ _ | exact opsI _ _ _ _ _ | simp [Op.operands, Call.operands])
  show (rdL rts st (Op.call ⟨.builtin .len, #[x], ats⟩).operands.toList ∧ _ ∧ _) = _
  rw [e]
  refine congrArg _ (congrArg _ ?_)
  show onO (yA (dstA ll) st j want) _ = onO (yA (dstA ll) st j want) _
  cases yA (dstA ll) st j want with
  | none => rfl
  | some y =>
    simp only [onO, onD, isGoCall, effB, fstL, subset, List.all_nil, true_and, St.app]
    rfl
@[simp] theorem wR_build (T : TypeId) (l : List (Nat × Operand)) {tg : _} : wRt P N ds (⟨some d, (Op.build T (List.toArray l)), ty, pos, aft, none⟩ :: rest) Q tg st = (d < N ∧ evc P st true (.build T (List.toArray l)) ∧ wRt P N ds rest Q .mk (st.putv d (ev P st (.build T (List.toArray l))))) := rfl
@[simp] theorem wD_build (T : TypeId) (l : List (Nat × Operand)) {tg : _} : wDt P N rts ds (⟨some d, (Op.build T (List.toArray l)), ty, pos, aft, none⟩ :: rest) Q tg st = (rdL rts st (sndL l) ∧ rdG rts st none ∧ (d < N ∧ evc P st true (.build T (List.toArray l)) ∧ wDt P N rts ds rest Q .mk (st.putv d (ev P st (.build T (List.toArray l)))))) := by
  have e : (Op.build T (List.toArray l)).operands.toList = (sndL l) := (opsB P _ _)
  show (rdL rts st (Op.build T (List.toArray l)).operands.toList ∧ _ ∧ _) = _
  rw [e]
  refine congrArg _ (congrArg _ ?_)
  show (onD (some d) fun d => _ ∧ _ ∧ (effB _ _ _ ∧ _)) = _
  simp only [onD, effB, fstL, subset, List.all_nil, true_and, St.app]
  rfl
@[simp] theorem wR_buildG (T : TypeId) (l : List (Nat × Operand)) (j : Nat) (want : Bool) {tg : _} : wRt P N (dstA ll) (⟨some d, (Op.build T (List.toArray l)), ty, pos, aft, some (j, want)⟩ :: rest) Q tg st = (onO (yA (dstA ll) st j want) fun y => d < N ∧ evc P st y (.build T (List.toArray l)) ∧ wRt P N (dstA ll) rest Q .mk (st.putv d (.cnd y (ev P st (.build T (List.toArray l)))))) := rfl
@[simp] theorem wD_buildG (T : TypeId) (l : List (Nat × Operand)) (j : Nat) (want : Bool) {tg : _} : wDt P N rts (dstA ll) (⟨some d, (Op.build T (List.toArray l)), ty, pos, aft, some (j, want)⟩ :: rest) Q tg st = (rdL rts st (sndL l) ∧ rdG rts st (dstL ll .mk j) ∧ (onO (yA (dstA ll) st j want) fun y => d < N ∧ evc P st y (.build T (List.toArray l)) ∧ wDt P N rts (dstA ll) rest Q .mk (st.putv d (.cnd y (ev P st (.build T (List.toArray l))))))) := by
  have e : (Op.build T (List.toArray l)).operands.toList = (sndL l) := (by first | rfl | exact opsB P _ _ | exact opsS _ _ _ | exact opsC _ _ _ | exact opsI _ _ _ _ _ | simp [Op.operands, Call.operands])
  show (rdL rts st (Op.build T (List.toArray l)).operands.toList ∧ _ ∧ _) = _
  rw [e]
  refine congrArg _ (congrArg _ ?_)
  show onO (yA (dstA ll) st j want) _ = onO (yA (dstA ll) st j want) _
  cases yA (dstA ll) st j want with
  | none => rfl
  | some y =>
    simp only [onO, onD, isGoCall, effB, fstL, subset, List.all_nil, true_and, St.app]
    rfl
@[simp] theorem wR_makeFunc (f : FuncId) (l : List Operand) {tg : _} : wRt P N ds (⟨some d, (Op.makeFunc (.func f) #[] (List.toArray l)), ty, pos, aft, none⟩ :: rest) Q tg st = (d < N ∧ evc P st true (.makeFunc (.func f) #[] (List.toArray l)) ∧ wRt P N ds rest Q .mk (st.putv d (ev P st (.makeFunc (.func f) #[] (List.toArray l))))) := rfl
@[simp] theorem wR_alloc (T : TypeId) {tg : _} : wRt P N ds (⟨some d, (Op.alloc T), ty, pos, aft, none⟩ :: rest) Q tg st = (d < N ∧ st.usd d = false ∧ onO (zbx P T) fun cs => (fun e => wRt P N ds rest Q .mk (st.app e)) ⟨some d, .ref d 0, [(d, some (.box T cs))], [d]⟩) := rfl
@[simp] theorem wD_alloc (T : TypeId) {tg : _} : wDt P N rts ds (⟨some d, (Op.alloc T), ty, pos, aft, none⟩ :: rest) Q tg st = (rdL rts st [] ∧ (d < N ∧ st.usd d = false ∧ onO (zbx P T) fun cs => (fun e => effB (newN (some d)) (some d) e ∧ wDt P N rts ds rest Q .mk (st.app e)) ⟨some d, .ref d 0, [(d, some (.box T cs))], [d]⟩)) := by
  have e : (Op.alloc T).operands.toList = [] := rfl
  have hw : wrN rts ds (⟨some d, (Op.alloc T), ty, pos, aft, none⟩) = (newN (some d)) := by
    show wrN rts ds (⟨some d, (Op.alloc T), ty, pos, aft, none⟩) = _
    first | rfl | exact namesO_eq rfl e | (simp only [wrN, List.take_succ_cons, List.take_zero, rtL_eq]; done)
  show (rdL rts st (Op.alloc T).operands.toList ∧ True ∧ opX P N ds _ (fun e => effB (wrN rts ds _) _ e ∧ wDX P N rts ds rest Q (st.app e)) st) = _
  rw [e, hw, true_and]
  rfl
@[simp] theorem wR_box (T : TypeId) (x : Operand) {tg : _} : wRt P N ds (⟨some d, (Op.box T x), ty, pos, aft, none⟩ :: rest) Q tg st = (d < N ∧ st.usd d = false ∧ st.ok true x ∧ (st.get x).whole = true ∧ (fun e => wRt P N ds rest Q .mk (st.app e)) ⟨some d, .ref d 0, [(d, some (.box T (st.get x).cells))], [d]⟩) := rfl
@[simp] theorem wR_store (T : TypeId) (addr x : Operand) {tg : _} : wRt P N ds (⟨none, (Op.store T addr x), ty, pos, aft, none⟩ :: rest) Q tg st = ((none : Option Nat) = none ∧ st.ok true addr ∧ st.ok true x ∧ (st.get x).whole = true ∧ infP P T = true ∧ (st.get x).cells.length = szP P T ∧ stoX P st (st.get x) (fun e => wRt P N ds rest Q .mk (st.app e)) (st.get addr)) := rfl
@[simp] theorem wD_store (T : TypeId) (addr x : Operand) {tg : _} : wDt P N rts ds (⟨none, (Op.store T addr x), ty, pos, aft, none⟩ :: rest) Q tg st = (rdL rts st [addr, x] ∧ ((none : Option Nat) = none ∧ st.ok true addr ∧ st.ok true x ∧ (st.get x).whole = true ∧ infP P T = true ∧ (st.get x).cells.length = szP P T ∧ stoX P st (st.get x) (fun e => effB (rtL rts [addr, x] ++ newN none) (none) e ∧ wDt P N rts ds rest Q .mk (st.app e)) (st.get addr))) := by
  have e : (Oper.op (⟨none, (Op.store T addr x), ty, pos, aft, none⟩)).operands.toList = [addr, x] := rfl
  have hw : wrN rts ds (⟨none, (Op.store T addr x), ty, pos, aft, none⟩) = (rtL rts [addr, x] ++ newN none) := by
    show wrN rts ds (⟨none, (Op.store T addr x), ty, pos, aft, none⟩) = _
    first | rfl | exact namesO_eq rfl e | (simp only [wrN, List.take_succ_cons, List.take_zero, rtL_eq]; done)
  show (rdL rts st (Oper.op (⟨none, (Op.store T addr x), ty, pos, aft, none⟩)).operands.toList ∧ True ∧ opX P N ds _ (fun e => effB (wrN rts ds _) _ e ∧ wDX P N rts ds rest Q (st.app e)) st) = _
  rw [e, hw, true_and]
  rfl
@[simp] theorem wR_append (s x : Operand) (T T' : TypeId) {tg : _} : wRt P N ds (⟨some d, (Op.call ⟨.builtin .append, #[s, x], #[T, T']⟩), ty, pos, aft, none⟩ :: rest) Q tg st = (T = T' ∧ d < N ∧ st.usd d = false ∧ st.ok true s ∧ st.ok true x ∧ onO (elemP P T) fun E => onO (appS st E (st.get s)) fun p => onO (appX st (st.get x)) fun es2 => appC P E p.1 es2 ∧ (fun e => wRt P N ds rest Q .mk (st.app e)) (appE E d p.1 es2 p.2)) := rfl
@[simp] theorem wR_call (f : FuncId) (xs : List Operand) (ats : Array TypeId) {tg : _} : wRt P N ds (⟨some d, (Op.call ⟨.value (.func f), List.toArray xs, ats⟩), ty, pos, aft, none⟩ :: rest) Q tg st = (d < N ∧ okL st true xs ∧ callX P st d f (getL st xs) (fun e => wRt P N ds rest Q .mk (st.app e))) := rfl
@[simp] theorem wD_call (f : FuncId) (xs : List Operand) (ats : Array TypeId) {tg : _} : wDt P N rts ds (⟨some d, (Op.call ⟨.value (.func f), List.toArray xs, ats⟩), ty, pos, aft, none⟩ :: rest) Q tg st = (rdL rts st (.func f :: xs) ∧ (d < N ∧ okL st true xs ∧ callX P st d f (getL st xs) (fun e => effB (rtL rts (.func f :: xs) ++ newN (some d)) (some d) e ∧ wDt P N rts ds rest Q .mk (st.app e)))) := by
  have e : (Op.call ⟨.value (.func f), List.toArray xs, ats⟩).operands.toList = (.func f :: xs) := (opsC _ _ _)
  have hw : wrN rts ds (⟨some d, (Op.call ⟨.value (.func f), List.toArray xs, ats⟩), ty, pos, aft, none⟩) = (rtL rts (.func f :: xs) ++ newN (some d)) := by
    show wrN rts ds (⟨some d, (Op.call ⟨.value (.func f), List.toArray xs, ats⟩), ty, pos, aft, none⟩) = _
    first | rfl | exact namesO_eq rfl e | (simp only [wrN, List.take_succ_cons, List.take_zero, rtL_eq]; done)
  show (rdL rts st (Op.call ⟨.value (.func f), List.toArray xs, ats⟩).operands.toList ∧ True ∧ opX P N ds _ (fun e => effB (wrN rts ds _) _ e ∧ wDX P N rts ds rest Q (st.app e)) st) = _
  rw [e, hw, true_and]
  rfl
@[simp] theorem wR_callT (t : Nat) (xs : List Operand) (ats : Array TypeId) {tg : _} : wRt P N ds (⟨some d, (Op.call ⟨.value (.tmp t), List.toArray xs, ats⟩), ty, pos, aft, none⟩ :: rest) Q tg st = (d < N ∧ okL st true xs ∧ dynX P st d (getL st xs) (fun e => wRt P N ds rest Q .mk (st.app e)) (slotF (st.val t))) := rfl
@[simp] theorem wR_row (T : TypeId) (n : Nat) (l : List (Nat × Operand)) {tg : _} : wRt P N ds (⟨some d, (Op.buildSlice T n (List.toArray l)), ty, pos, aft, none⟩ :: rest) Q tg st = (d < N ∧ st.usd d = false ∧ okL st true (sndL l) ∧ onO (elemP P T) fun E => rowX P st d n E (getL st (sndL l)) (l.map (·.1)) (rch st.blk (refsL (getL st (sndL l)))) (fun e => wRt P N ds rest Q .mk (st.app e))) := rfl
@[simp] theorem wR_make (T : TypeId) (x y : Operand) {tg : _} : wRt P N ds (⟨some d, (Op.makeSlice T x y), ty, pos, aft, none⟩ :: rest) Q tg st = (d < N ∧ st.usd d = false ∧ st.ok true x ∧ st.ok true y ∧ onO (elemP P T) fun E => onO (zonP P E) fun z => szP P E = 1 ∧ bytesP P E ≤ 16 ∧ onO (mkN (st.get x)) fun k => mkN (st.get y) = some k ∧ (fun e => wRt P N ds rest Q .mk (st.app e)) ⟨some d, .rw d 0 k, [(d, some (.row E (List.replicate k [.imm z])))], [d]⟩) := rfl
attribute [simp] mkN_int
@[simp] theorem wR_boxG (T : TypeId) (x : Operand) (j : Nat) (want : Bool) {tg : _} : wRt P N (dstA ll) (⟨some d, (Op.box T x), ty, pos, aft, some (j, want)⟩ :: rest) Q tg st = (onO (yA (dstA ll) st j want) fun y => (y = true → (d < N ∧ st.usd d = false ∧ st.ok true x ∧ (st.get x).whole = true ∧ (fun e => wRt P N (dstA ll) rest Q .mk (st.app e)) ⟨some d, .ref d 0, [(d, some (.box T (st.get x).cells))], [d]⟩)) ∧ (y = false → (∀ d', some d = some d' → d' < N) ∧ wRt P N (dstA ll) rest Q .mk (st.app ⟨some d, .dead, [], []⟩))) := rfl
@[simp] theorem wR_callG (f : FuncId) (xs : List Operand) (ats : Array TypeId) (j : Nat) (want : Bool) {tg : _} : wRt P N (dstA ll) (⟨some d, (Op.call ⟨.value (.func f), List.toArray xs, ats⟩), ty, pos, aft, some (j, want)⟩ :: rest) Q tg st = ((onO (yA (dstA ll) st j want) fun y => d < N ∧ okL st y xs ∧ callGT P d y f (fixL (getL st xs)) (pureL (getL st xs) = true) (fun e => wRt P N (dstA ll) rest Q .mk (st.app e)) .mk) ∨ (onO (yA (dstA ll) st j want) fun y => (y = true → (d < N ∧ okL st true xs ∧ callX P st d f (getL st xs) (fun e => wRt P N (dstA ll) rest Q .mk (st.app e)))) ∧ (y = false → (∀ d', some d = some d' → d' < N) ∧ wRt P N (dstA ll) rest Q .mk (st.app ⟨some d, .dead, [], []⟩)))) := rfl
@[simp] theorem wD_callG (f : FuncId) (xs : List Operand) (ats : Array TypeId) (j : Nat) (want : Bool) {tg : _} : wDt P N rts (dstA ll) (⟨some d, (Op.call ⟨.value (.func f), List.toArray xs, ats⟩), ty, pos, aft, some (j, want)⟩ :: rest) Q tg st = (rdL rts st (.func f :: xs) ∧ rdG rts st (dstL ll .mk j) ∧ (onO (yA (dstA ll) st j want) fun y => d < N ∧ okL st y xs ∧ callGT P d y f (fixL (getL st xs)) (pureL (getL st xs) = true) (fun e => effB (wrN rts (dstA ll) ⟨some d, (Op.call ⟨.value (.func f), List.toArray xs, ats⟩), ty, pos, aft, some (j, want)⟩) (some d) e ∧ wDt P N rts (dstA ll) rest Q .mk (st.app e)) .mk)) := by
  have e : (Op.call ⟨.value (.func f), List.toArray xs, ats⟩).operands.toList = (.func f :: xs) := opsC _ _ _
  show (rdL rts st (Op.call ⟨.value (.func f), List.toArray xs, ats⟩).operands.toList ∧ _ ∧ _) = _
  rw [e]
  rfl
end
attribute [simp] spliceL
theorem wrap64 {n : Int} (h1 : -9223372036854775808 ≤ n) (h2 : n ≤ 9223372036854775807) : IntKind.i64.wrap n = n := by
  simp only [IntKind.wrap, IntKind.bits, IntKind.signed]
  simp
  omega
end Go.Proofs.YtldnkeackphilaaGreatDoor.X
