/- The calculus of values: rules for simp. -/
import Derived.Test.YtldnkeackphilaaGreatDoorNs7
import Derived.Test.YtldnkeackphilaaGreatDoorNs17
set_option linter.unusedSimpArgs false
set_option linter.unusedVariables false
namespace Go.Proofs.YtldnkeackphilaaGreatDoor
open Go.RowKit
universe u
inductive Tag {α : Sort u} (x : α) : Type
  | mk

def onS (o : Option Bool) (f : Bool → Prop) : Prop := match o with
  | some y => f y
  | none => False
@[congr] theorem onS_congr {o o' : Option Bool} (f : Bool → Prop) (h : o = o') : onS o f = onS o' f := by rw [h]
@[simp] theorem onS_some (y : Bool) (f : Bool → Prop) : onS (some y) f = f y := rfl
def onB (a : AV) (f : Bool → Prop) : Prop := ∃ b, a = .imm (.bool b) ∧ f b
@[congr] theorem onB_congr {a a' : AV} (f : Bool → Prop) (h : a = a') : onB a f = onB a' f := by rw [h]
@[simp] theorem onB_bool (b : Bool) (f : Bool → Prop) : onB (.imm (.bool b)) f = f b := by
  simp only [onB, AV.imm.injEq, Value.bool.injEq]
  exact propext ⟨fun ⟨b', h, hf⟩ => h ▸ hf, fun h => ⟨b, rfl, h⟩⟩
def callW (P : Program) (f : FuncId) (args : List AV) (K : AV → (Nat → Option (Option TypeId)) → Prop) (_ : Tag K) : Prop := ∃ a rt, Has P f args a rt ∧ K a rt
theorem callW_of {P : Program} {f : FuncId} {args : List AV} {K} {tg : Tag K} {a : AV} {rt} (h : Has P f args a rt) (hk : K a rt) : callW P f args K tg := ⟨a, rt, h, hk⟩
def callG (P : Program) (y : Bool) (f : FuncId) (args : List AV) (K : AV → Prop) (_ : Tag K) : Prop := ∃ a rt, (y = true → Has P f args a rt) ∧ a.shared = true ∧ K a
theorem callG_of {P : Program} {y : Bool} {f : FuncId} {args : List AV} {K} {tg : Tag K} {a : AV} {rt} (h : y = true → Has P f args a rt) (hs : a.shared = true) (hk : K a) : callG P y f args K tg := ⟨a, rt, h, hs, hk⟩
def onE (o : Option TypeId) (f : TypeId → Prop) : Prop := match o with
  | some y => f y
  | none => False
@[congr] theorem onE_congr {o o' : Option TypeId} (f : TypeId → Prop) (h : o = o') : onE o f = onE o' f := by rw [h]
@[simp] theorem onE_some (y : TypeId) (f : TypeId → Prop) : onE (some y) f = f y := rfl
def onSl (a : AV) (f : List (List AV) → Prop) : Prop := match a with
  | .sl es => f es
  | _ => False
@[congr] theorem onSl_congr {a a' : AV} (f : List (List AV) → Prop) (h : a = a') : onSl a f = onSl a' f := by rw [h]
@[simp] theorem onSl_sl (es : List (List AV)) (f : List (List AV) → Prop) : onSl (.sl es) f = f es := rfl
def onRef (a : AV) (f : Nat → Nat → Prop) : Prop := match a with
  | .ref r off => f r off
  | _ => False
@[congr] theorem onRef_congr {a a' : AV} (f : Nat → Nat → Prop) (h : a = a') : onRef a f = onRef a' f := by rw [h]
@[simp] theorem onRef_ref (r off : Nat) (f : Nat → Nat → Prop) : onRef (.ref r off) f = f r off := rfl
def onBox (a : AV) (f : TypeId → List AV → Prop) : Prop := match a with
  | .box T cs => f T cs
  | _ => False
@[congr] theorem onBox_congr {a a' : AV} (f : TypeId → List AV → Prop) (h : a = a') : onBox a f = onBox a' f := by rw [h]
@[simp] theorem onBox_box (T : TypeId) (cs : List AV) (f : TypeId → List AV → Prop) : onBox (.box T cs) f = f T cs := rfl
def onZ (o : Option (List AV × List (Option (Option TypeId)))) (f : List AV → List (Option (Option TypeId)) → Prop) : Prop := match o with
  | some z => f z.1 z.2
  | none => False
@[congr] theorem onZ_congr {o o'} (f : List AV → List (Option (Option TypeId)) → Prop) (h : o = o') : onZ o f = onZ o' f := by rw [h]
@[simp] theorem onZ_some (cs : List AV) (tk) (f : List AV → List (Option (Option TypeId)) → Prop) : onZ (some (cs, tk)) f = f cs tk := rfl
theorem nilTk_lk (vs : Array Value) : nilTk vs = lk (none :: vs.toList.map fun v => if isNilS v then some none else none) := by
  funext k
  cases k with
  | zero => rfl
  | succ k =>
    simp only [nilTk, lk, List.getD_eq_getElem?_getD, List.getElem?_cons_succ, List.getElem?_map, Array.getElem?_toList]
    cases vs[k]? <;> rfl
def nth {α : Type} (d : α) : List α → Nat → α
  | [], _ => d
  | a :: _, 0 => a
  | _ :: l, k + 1 => nth d l k
@[simp] theorem nth_nil {α : Type} (d : α) (k : Nat) : nth d [] k = d := rfl
@[simp] theorem nth_zero {α : Type} (d a : α) (l : List α) : nth d (a :: l) 0 = a := rfl
@[simp] theorem nth_succ {α : Type} (d a : α) (l : List α) (k : Nat) : nth d (a :: l) (k + 1) = nth d l k := rfl
theorem nth_eq {α : Type} (d : α) : ∀ (l : List α) (k : Nat), l.getD k d = nth d l k
  | [], _ => rfl
  | a :: _, 0 => rfl
  | _ :: l, k + 1 => nth_eq d l k
def optN {α : Type} : List α → Nat → Option α
  | [], _ => none
  | a :: _, 0 => some a
  | _ :: l, k + 1 => optN l k
@[simp] theorem optN_zero {α : Type} (a : α) (l : List α) : optN (a :: l) 0 = some a := rfl
@[simp] theorem optN_succ {α : Type} (a : α) (l : List α) (k : Nat) : optN (a :: l) (k + 1) = optN l k := rfl
theorem optN_eq {α : Type} : ∀ (l : List α) (k : Nat), l[k]? = optN l k
  | [], _ => rfl
  | a :: _, 0 => rfl
  | _ :: l, k + 1 => by rw [List.getElem?_cons_succ]; exact optN_eq l k
def dstA (l : List Oper) : List (Option Nat) := l.map (·.dst)
def dstL (l : List Oper) (_ : Tag l) (j : Nat) : Option Nat := (l.map (·.dst)).getD j none
@[simp] theorem dstL_zero (d : Option Nat) (op : Op) (ty pos aft g) (l : List Oper) (tg) : dstL (⟨d, op, ty, pos, aft, g⟩ :: l) tg 0 = d := rfl
@[simp] theorem dstL_succ (o : Oper) (l : List Oper) (tg) (j : Nat) : dstL (o :: l) tg (j + 1) = dstL l .mk j := rfl
def getA (t : Nat) : AV → AV
  | .box _ _ => .ref t 0
  | .cnd _ a => a
  | a => a
@[simp] theorem getA_imm (t : Nat) (v : Value) : getA t (AV.imm v) = (.imm v : AV) := rfl
@[simp] theorem getA_sl (t : Nat) (es : List (List AV)) : getA t (AV.sl es) = (.sl es : AV) := rfl
@[simp] theorem getA_ptr (t : Nat) (cs : List AV) : getA t (AV.ptr cs) = (.ptr cs : AV) := rfl
@[simp] theorem getA_box (t : Nat) (T' : TypeId) (cs : List AV) : getA t (AV.box T' cs) = .ref t 0 := rfl
@[simp] theorem getA_agg (t : Nat) (cs : List AV) : getA t (AV.agg cs) = (.agg cs : AV) := rfl
@[simp] theorem getA_ref (t : Nat) (r off : Nat) : getA t (AV.ref r off) = (.ref r off : AV) := rfl
@[simp] theorem getA_cnd (t : Nat) (y' : Bool) (a : AV) : getA t (AV.cnd y' a) = a := rfl
@[simp] theorem getA_dead (t : Nat)  : getA t (AV.dead) = AV.dead := rfl
def okA (y : Bool) : AV → Prop
  | .cnd y' _ => y = true → y' = true
  | .dead => False
  | _ => True
@[simp] theorem okA_imm (y : Bool) (v : Value) : okA y (AV.imm v) = True := rfl
@[simp] theorem okA_sl (y : Bool) (es : List (List AV)) : okA y (AV.sl es) = True := rfl
@[simp] theorem okA_ptr (y : Bool) (cs : List AV) : okA y (AV.ptr cs) = True := rfl
@[simp] theorem okA_box (y : Bool) (T' : TypeId) (cs : List AV) : okA y (AV.box T' cs) = True := rfl
@[simp] theorem okA_agg (y : Bool) (cs : List AV) : okA y (AV.agg cs) = True := rfl
@[simp] theorem okA_ref (y : Bool) (r off : Nat) : okA y (AV.ref r off) = True := rfl
@[simp] theorem okA_cnd (y : Bool) (y' : Bool) (a : AV) : okA y (AV.cnd y' a) = (y = true → y' = true) := rfl
@[simp] theorem okA_dead (y : Bool)  : okA y (AV.dead) = False := rfl
@[simp] theorem get_tmp (st : St) (t : Nat) : st.get (.tmp t) = getA t (st.val t) := by
  simp only [St.get]; cases st.val t <;> rfl
@[simp] theorem ok_tmp (st : St) (y : Bool) (t : Nat) : st.ok y (.tmp t) = okA y (st.val t) := by
  simp only [St.ok]; cases st.val t <;> rfl
@[simp] theorem get_func (st : St) (g : FuncId) : st.get (.func g) = .imm (.func (.func g) #[] #[]) := rfl
@[simp] theorem ok_func (st : St) (y : Bool) (g : FuncId) : st.ok y (.func g) = True := rfl
@[simp] theorem get_bool (st : St) (b : Bool) : st.get (.const (.bool b)) = .imm (.bool b) := rfl
@[simp] theorem ok_bool (st : St) (y : Bool) (b : Bool) : st.ok y (.const (.bool b)) = True := eq_true (.inl rfl)
@[simp] theorem get_int (st : St) (k : IntKind) (n : Int) : st.get (.const (.int k n)) = .imm (.int k n) := rfl
@[simp] theorem ok_int (st : St) (y : Bool) (k : IntKind) (n : Int) : st.ok y (.const (.int k n)) = True := eq_true (.inl rfl)
@[simp] theorem get_string (st : St) (s : ByteArray) : st.get (.const (.string s)) = .imm (.string s) := rfl
@[simp] theorem ok_string (st : St) (y : Bool) (s : ByteArray) : st.ok y (.const (.string s)) = True := eq_true (.inl rfl)
@[simp] theorem get_ptr (st : St)  : st.get (.const (.pointer none)) = .imm (.pointer none) := rfl
@[simp] theorem ok_ptr (st : St) (y : Bool)  : st.ok y (.const (.pointer none)) = True := eq_true (.inl rfl)
@[simp] theorem get_nilIface (st : St)  : st.get (.const (.nilIface)) = .imm (.nilIface) := rfl
@[simp] theorem ok_nilIface (st : St) (y : Bool)  : st.ok y (.const (.nilIface)) = True := eq_true (.inl rfl)
@[simp] theorem get_nil (st : St) : st.get (.const (.slice none 0 0)) = .sl [] := rfl
@[simp] theorem ok_nil (st : St) (y : Bool) : st.ok y (.const (.slice none 0 0)) = True := eq_true (.inl rfl)
def ccL : List Value → List AV
  | [] => []
  | v :: l => constCell v :: ccL l
theorem ccL_eq (l : List Value) : l.map constCell = ccL l := by
  induction l with
  | nil => rfl
  | cons v l ih => simp [ccL, ih]
def oneL : List Value → Bool
  | [] => true
  | v :: l => v.oneCell' && oneL l
theorem oneL_eq (l : List Value) : l.all (·.oneCell') = oneL l := by
  induction l with
  | nil => rfl
  | cons v l ih => simp [oneL, ih]
@[simp] theorem ccL_nil : ccL [] = [] := rfl
@[simp] theorem ccL_cons (v : Value) (l : List Value) : ccL (v :: l) = constCell v :: ccL l := rfl
@[simp] theorem oneL_nil : oneL [] = true := rfl
@[simp] theorem oneL_cons (v : Value) (l : List Value) : oneL (v :: l) = (v.oneCell' && oneL l) := rfl
@[simp] theorem get_agg (st : St) (l : List Value) : st.get (.const (.agg (List.toArray l))) = .agg (ccL l) := by
  simp only [St.get, constAV, ccL_eq]
@[simp] theorem ok_agg (st : St) (y : Bool) (l : List Value) : st.ok y (.const (.agg (List.toArray l))) = (oneL l = true) := by
  simp only [St.ok]
  refine propext ⟨fun h => ?_, fun h => .inr ⟨_, rfl, by rw [← oneL_eq] at h; simpa using h⟩⟩
  rcases h with h | ⟨vs, h1, h2⟩
  · cases h
  · cases h1; rw [← oneL_eq]; simpa using h2
@[simp] theorem one_bool (b : Bool) : Value.oneCell' (.bool b) = true := rfl
@[simp] theorem cell_int (k : IntKind) (n : Int) : constCell (.int k n) = .imm (.int k n) := rfl
@[simp] theorem one_int (k : IntKind) (n : Int) : Value.oneCell' (.int k n) = true := rfl
@[simp] theorem cell_string (s : ByteArray) : constCell (.string s) = .imm (.string s) := rfl
@[simp] theorem one_string (s : ByteArray) : Value.oneCell' (.string s) = true := rfl
@[simp] theorem one_ptr  : Value.oneCell' (.pointer none) = true := rfl
@[simp] theorem one_nilFunc  : Value.oneCell' (.nilFunc) = true := rfl
@[simp] theorem one_nilIface  : Value.oneCell' (.nilIface) = true := rfl
@[simp] theorem one_map  : Value.oneCell' (.map none) = true := rfl
@[simp] theorem one_float (k : FloatKind) (n : Nat) : Value.oneCell' (.float k n) = true := rfl
@[simp] theorem cell_nil : constCell (.slice none 0 0) = .sl [] := rfl
@[simp] theorem one_nil : Value.oneCell' (.slice none 0 0) = true := rfl
@[simp] theorem killR_imm (d : Nat) (v : Value) : AV.killR d (.imm v) = .imm v := rfl
@[simp] theorem killR_sl (d : Nat) (es : List (List AV)) : AV.killR d (.sl es) = .sl es := rfl
@[simp] theorem killR_ptr (d : Nat) (cs : List AV) : AV.killR d (.ptr cs) = .ptr cs := rfl
@[simp] theorem killR_box (d : Nat) (T' : TypeId) (cs : List AV) : AV.killR d (.box T' cs) = .box T' cs := rfl
@[simp] theorem killR_agg (d : Nat) (cs : List AV) : AV.killR d (.agg cs) = .agg cs := rfl
@[simp] theorem killR_dead (d : Nat)  : AV.killR d (.dead) = .dead := rfl
@[simp] theorem killR_cnd_imm (d : Nat) (y : Bool) (v : Value) : AV.killR d (.cnd y (.imm v)) = .cnd y (.imm v) := rfl
@[simp] theorem killR_cnd_sl (d : Nat) (y : Bool) (es : List (List AV)) : AV.killR d (.cnd y (.sl es)) = .cnd y (.sl es) := rfl
@[simp] theorem killR_cnd_ptr (d : Nat) (y : Bool) (cs : List AV) : AV.killR d (.cnd y (.ptr cs)) = .cnd y (.ptr cs) := rfl
@[simp] theorem killR_cnd_agg (d : Nat) (y : Bool) (cs : List AV) : AV.killR d (.cnd y (.agg cs)) = .cnd y (.agg cs) := rfl
@[simp] theorem killR_cnd_dead (d : Nat) (y : Bool)  : AV.killR d (.cnd y (.dead)) = .cnd y (.dead) := rfl
@[simp] theorem shared_imm  (v : Value) : AV.shared (AV.imm v) = true := rfl
@[simp] theorem shared_sl  (es : List (List AV)) : AV.shared (AV.sl es) = true := rfl
@[simp] theorem shared_ptr  (cs : List AV) : AV.shared (AV.ptr cs) = true := rfl
@[simp] theorem shared_agg  (cs : List AV) : AV.shared (AV.agg cs) = true := rfl
@[simp] theorem shared_tup  (as : List AV) : AV.shared (AV.tup as) = true := rfl
@[simp] theorem shared_ifc  (T' : TypeId) (a : AV) : AV.shared (AV.ifc T' a) = true := rfl
@[simp] theorem shared_dead   : AV.shared (AV.dead) = false := rfl
@[simp] theorem whole_imm  (v : Value) : AV.whole (AV.imm v) = true := rfl
@[simp] theorem whole_sl  (es : List (List AV)) : AV.whole (AV.sl es) = true := rfl
@[simp] theorem whole_agg  (cs : List AV) : AV.whole (AV.agg cs) = true := rfl
@[simp] theorem cells_imm  (v : Value) : AV.cells (AV.imm v) = [(.imm v : AV)] := rfl
@[simp] theorem cells_sl  (es : List (List AV)) : AV.cells (AV.sl es) = [(.sl es : AV)] := rfl
@[simp] theorem cells_agg  (cs : List AV) : AV.cells (AV.agg cs) = cs := rfl
@[simp] theorem plain_imm  (v : Value) : AV.plain (AV.imm v) = true := rfl
@[simp] theorem plain_sl  (es : List (List AV)) : AV.plain (AV.sl es) = true := rfl
@[simp] theorem plain_ptr  (cs : List AV) : AV.plain (AV.ptr cs) = true := rfl
@[simp] theorem plain_agg  (cs : List AV) : AV.plain (AV.agg cs) = true := rfl
@[simp] theorem plain_ref  (r off : Nat) : AV.plain (AV.ref r off) = true := rfl
@[simp] theorem plain_dead   : AV.plain (AV.dead) = false := rfl
@[simp] theorem rootNe_imm (d : Nat) (v : Value) : AV.rootNe d (AV.imm v) = true := rfl
@[simp] theorem rootNe_sl (d : Nat) (es : List (List AV)) : AV.rootNe d (AV.sl es) = true := rfl
@[simp] theorem rootNe_ptr (d : Nat) (cs : List AV) : AV.rootNe d (AV.ptr cs) = true := rfl
@[simp] theorem rootNe_agg (d : Nat) (cs : List AV) : AV.rootNe d (AV.agg cs) = true := rfl
@[simp] theorem rootNe_ref (d : Nat) (r off : Nat) : AV.rootNe d (AV.ref r off) = (r != d) := rfl
@[simp] theorem rootNe_dead (d : Nat)  : AV.rootNe d (AV.dead) = true := rfl
@[simp] theorem final_agg  (cs : List AV) : AV.final (AV.agg cs) = true := rfl
@[simp] theorem trimR_imm (nv : List Nat) (v : Value) : AV.trimR nv (.imm v) = .imm v := rfl
@[simp] theorem trimR_sl (nv : List Nat) (es : List (List AV)) : AV.trimR nv (.sl es) = .sl es := rfl
@[simp] theorem trimR_ptr (nv : List Nat) (cs : List AV) : AV.trimR nv (.ptr cs) = .ptr cs := rfl
@[simp] theorem trimR_box (nv : List Nat) (T' : TypeId) (cs : List AV) : AV.trimR nv (.box T' cs) = .box T' cs := rfl
@[simp] theorem trimR_agg (nv : List Nat) (cs : List AV) : AV.trimR nv (.agg cs) = .agg cs := rfl
@[simp] theorem trimR_dead (nv : List Nat)  : AV.trimR nv (.dead) = .dead := rfl
@[simp] theorem lk_app (l : List (Option (Option TypeId))) (k : Nat) : lk l k = nth none l k := nth_eq _ _ _
@[simp] theorem noTok_app (k : Nat) : noTok k = none := rfl
@[simp] theorem noSrc_app (t k : Nat) : noSrc t k = false := rfl
def tkOne (E : TypeId) : Nat → Option (Option TypeId) := fun k => if k = 0 then some (some E) else none
@[simp] theorem tkOne_app (E : TypeId) (k : Nat) : tkOne E k = if k = 0 then some (some E) else none := rfl
@[simp] theorem tkO_tmp (st : St) (t k : Nat) : tkO st (.tmp t) k = st.tok t k := rfl
@[simp] theorem tkO_nil (st : St) : tkO st (.const (.slice none 0 0)) 0 = some none := rfl
def tkN (f : Nat → Option (Option TypeId)) : Nat → Nat → List (Option (Option TypeId))
  | _, 0 => []
  | k, n + 1 => f k :: tkN f (k + 1) n
theorem tkN_eq (f : Nat → Option (Option TypeId)) : ∀ n k, (List.range n).map (fun j => f (k + j)) = tkN f k n
  | 0, k => rfl
  | n + 1, k => by
    rw [List.range_succ_eq_map, List.map_cons, List.map_map, tkN, ← tkN_eq f n (k + 1)]
    refine congrArg (f k :: ·) (List.map_congr_left fun j _ => ?_)
    show f (k + (j + 1)) = _
    rw [show k + (j + 1) = k + 1 + j by omega]
@[simp] theorem tkN_zero (f : Nat → Option (Option TypeId)) (k : Nat) : tkN f k 0 = [] := rfl
@[simp] theorem tkN_succ (f : Nat → Option (Option TypeId)) (k n : Nat) : tkN f k (n + 1) = f k :: tkN f (k + 1) n := rfl
@[congr] theorem tkN_congr (f : Nat → Option (Option TypeId)) {k k' n n' : Nat} (h : k = k') (h' : n = n') : tkN f k n = tkN f k' n' := by rw [h, h']
def tokA (f : Nat → Option (Option TypeId)) : AV → List (Option (Option TypeId))
  | .sl _ => [f 0]
  | .agg cs => none :: tkN f 1 cs.length
  | _ => []
def celA (f : Nat → Option (Option TypeId)) : AV → List (Option (Option TypeId))
  | .sl _ => [f 0]
  | .agg cs => tkN f 1 cs.length
  | _ => []
def allA (f : Nat → Option (Option TypeId)) : AV → List (Option (Option TypeId))
  | .sl _ => [f 0]
  | .agg cs => none :: tkN f 1 cs.length
  | .box _ cs => none :: tkN f 1 cs.length
  | _ => []
@[congr] theorem tokA_congr (f : Nat → Option (Option TypeId)) {a a' : AV} (h : a = a') : tokA f a = tokA f a' := by rw [h]
@[congr] theorem celA_congr (f : Nat → Option (Option TypeId)) {a a' : AV} (h : a = a') : celA f a = celA f a' := by rw [h]
@[congr] theorem allA_congr (f : Nat → Option (Option TypeId)) {a a' : AV} (h : a = a') : allA f a = allA f a' := by rw [h]
theorem range1 (f : Nat → Option (Option TypeId)) (n : Nat) : (List.range n).map (fun j => f (j + 1)) = tkN f 1 n := by
  rw [← tkN_eq]
  exact List.map_congr_left fun j _ => by rw [Nat.add_comm]
@[simp] theorem tokL_eq (st : St) (x : Operand) : tokL st x = tokA (tkO st x) (st.get x) := by
  unfold tokL; cases st.get x <;> simp [tokA, range1]
@[simp] theorem celL_eq (st : St) (x : Operand) : celL st x = celA (tkO st x) (st.get x) := by
  unfold celL; cases st.get x <;> simp [celA, range1]
@[simp] theorem tkAll_eq (st : St) (t : Nat) : tkAll st t = allA (st.tok t) (st.val t) := by
  unfold tkAll; cases st.val t <;> simp [allA, range1]
@[simp] theorem tokA_imm (f : Nat → Option (Option TypeId)) (v : Value) : tokA f (AV.imm v) = [] := rfl
@[simp] theorem tokA_sl (f : Nat → Option (Option TypeId)) (es : List (List AV)) : tokA f (AV.sl es) = [f 0] := rfl
@[simp] theorem celA_sl (f : Nat → Option (Option TypeId)) (es : List (List AV)) : celA f (AV.sl es) = [f 0] := rfl
@[simp] theorem celA_agg (f : Nat → Option (Option TypeId)) (cs : List AV) : celA f (AV.agg cs) = tkN f 1 cs.length := rfl
@[simp] theorem allA_imm (f : Nat → Option (Option TypeId)) (v : Value) : allA f (AV.imm v) = [] := rfl
@[simp] theorem allA_sl (f : Nat → Option (Option TypeId)) (es : List (List AV)) : allA f (AV.sl es) = [f 0] := rfl
@[simp] theorem allA_ptr (f : Nat → Option (Option TypeId)) (cs : List AV) : allA f (AV.ptr cs) = [] := rfl
@[simp] theorem allA_box (f : Nat → Option (Option TypeId)) (T' : TypeId) (cs : List AV) : allA f (AV.box T' cs) = none :: tkN f 1 cs.length := rfl
@[simp] theorem allA_agg (f : Nat → Option (Option TypeId)) (cs : List AV) : allA f (AV.agg cs) = none :: tkN f 1 cs.length := rfl
@[simp] theorem allA_dead (f : Nat → Option (Option TypeId))  : allA f (AV.dead) = [] := rfl
@[simp] theorem litOf_eq (nv : List Nat) (st : St) : litOf nv st = St.asc (litL st nv nv) := rfl
@[simp] theorem litL_nil (st : St) (nv : List Nat) : litL st nv [] = [] := rfl
@[simp] theorem litL_cons (st : St) (nv : List Nat) (k : Nat) (l : List Nat) : litL st nv (k :: l) = (k, (st.val k).trimR nv, tkAll st k) :: litL st nv l := rfl
def srcR (P : Program) (st : St) (L : List Nat) (d : Nat) (op : Op) : Nat → Nat → Bool := fun t k => (trR P st L d op t k).isSome
def srcO (x : Operand) (t : Nat) : Bool := match x with
  | .tmp t' => t == t'
  | _ => false
@[simp] theorem srcO_tmp (t t' : Nat) : srcO (.tmp t') t = (t == t') := rfl
@[simp] theorem srcO_const (v : Value) (t : Nat) : srcO (.const v) t = false := rfl
theorem rhoO_some (x : Operand) (t k : Nat) : (rhoO x some t k).isSome = srcO x t := by
  cases x <;> simp only [rhoO, srcO, Option.isSome_none]
  split <;> simp_all
@[simp] theorem srcR_assign (P : Program) (st : St) (L : List Nat) (d : Nat) (x : Operand) (t k : Nat) : srcR P st L d (.assign x) t k = ((st.get x).shared && srcO x t) := by
  simp only [srcR, trR]
  cases (st.get x).shared <;> simp [rhoO_some]
@[simp] theorem srcR_move (P : Program) (st : St) (L : List Nat) (d : Nat) (x : Operand) (t k : Nat) : srcR P st L d (.move x) t k = (L.contains d && (st.get x).shared && srcO x t) := by
  simp only [srcR, trR]
  by_cases h : (L.contains d && (st.get x).shared) = true
  · rw [if_pos h, rhoO_some, h]; rfl
  · rw [if_neg h, Bool.eq_false_iff.2 h]; rfl
def srcLd (P : Program) (T : TypeId) (t k : Nat) : AV → Bool
  | .ref r off => if isRowT P T then t == r && Nat.ble (off + 1) k && Nat.ble k (off + szP P T) else t == r && k == off + 1
  | _ => false
@[simp] theorem srcLd_ref (P : Program) (T : TypeId) (t k r off : Nat) : srcLd P T t k (.ref r off) = if isRowT P T then t == r && Nat.ble (off + 1) k && Nat.ble k (off + szP P T) else t == r && k == off + 1 := rfl
@[simp] theorem srcLd_ptr (P : Program) (T : TypeId) (t k : Nat) (cs : List AV) : srcLd P T t k (.ptr cs) = false := rfl
@[simp] theorem srcR_load (P : Program) (st : St) (L : List Nat) (d : Nat) (T : TypeId) (x : Operand) (t k : Nat) : srcR P st L d (.load T x) t k = (L.contains d && srcLd P T t k (st.get x)) := by
  simp only [srcR, trR]
  cases st.get x <;> simp only [srcLd, Bool.and_false, Option.isSome_none]
  next r off =>
  cases L.contains d
  · rfl
  · simp only [if_true, Bool.true_and]
    cases isRowT P T
    · simp only [Bool.false_eq_true, if_false]
      by_cases h : t = r ∧ k = off + 1
      · obtain ⟨rfl, rfl⟩ := h; simp
      · rw [if_neg h]
        simp only [Option.isSome_none]
        symm
        simpa using h
    · simp only [if_true]
      by_cases h : t = r ∧ off + 1 ≤ k ∧ k ≤ off + szP P T
      · obtain ⟨rfl, h2, h3⟩ := h
        rw [if_pos ⟨rfl, h2, h3⟩]
        simp [h2, h3, Nat.ble_eq]
      · rw [if_neg h]
        symm
        simp only [Option.isSome_none]
        rw [Bool.eq_false_iff]
        intro h'
        simp only [Bool.and_eq_true, beq_iff_eq, Nat.ble_eq] at h'
        exact h ⟨h'.1.1, h'.1.2, h'.2⟩
@[simp] theorem trT_assign (P : Program) (st : St) (L : List Nat) (d : Nat) (x : Operand) : trT P st L d (.assign x) = if (st.get x).shared then lk (tokL st x) else noTok := rfl
@[simp] theorem trT_move (P : Program) (st : St) (L : List Nat) (d : Nat) (x : Operand) : trT P st L d (.move x) = if L.contains d && (st.get x).shared then lk (tokL st x) else noTok := rfl
def trLd (P : Program) (st : St) (T : TypeId) : AV → List (Option (Option TypeId))
  | .ref r off => if isRowT P T then none :: tkN (st.tok r) (off + 1) (szP P T) else [st.tok r (off + 1)]
  | _ => []
@[simp] theorem trT_load (P : Program) (st : St) (L : List Nat) (d : Nat) (T : TypeId) (x : Operand) : trT P st L d (.load T x) = if L.contains d then lk (trLd P st T (st.get x)) else noTok := by
  simp only [trT]
  cases st.get x <;> simp only [trLd] <;> (try (split <;> first | rfl | (funext k; simp only [lk, noTok, List.getD_nil]; done)))
  next r off =>
  cases L.contains d
  · rfl
  simp only [if_true]
  cases isRowT P T
  · rfl
  · simp only [if_true]
    rw [← tkN_eq]
    refine congrArg lk (congrArg (none :: ·) (List.map_congr_left fun j _ => ?_))
    rw [show off + j + 1 = off + 1 + j by omega]
def inCel (base k : Nat) : AV → Bool
  | .agg cs => Nat.ble 1 k && Nat.ble k cs.length
  | _ => k == 0
def srcB (x : Operand) (a : AV) (base : Nat) : Nat → Nat → Bool := fun t k => (rhoO x (celF a base) t k).isSome
@[simp] theorem srcB_app (x : Operand) (a : AV) (base t k : Nat) : srcB x a base t k = (srcO x t && inCel base k a) := by
  unfold srcB
  cases x <;> simp only [rhoO, srcO, Bool.false_and, Option.isSome_none]
  next t' =>
  by_cases h : t = t'
  · subst h
    simp only [if_true, beq_self_eq_true, Bool.true_and]
    cases a <;> simp only [celF, inCel] <;> (try (by_cases h : k = 0 <;> simp [h]))
    next cs =>
    by_cases h : 1 ≤ k ∧ k ≤ cs.length
    · rw [if_pos h]; simp [h.1, h.2, Nat.ble_eq]
    · rw [if_neg h]
      symm
      simp only [Option.isSome_none]
      rw [Bool.eq_false_iff]
      intro h'
      simp only [Bool.and_eq_true, Nat.ble_eq] at h'
      exact h h'
  · simp [h]
def srcA (ts : Nat) : Nat → Nat → Bool := fun t k => t == ts && k == 0
@[simp] theorem srcA_app (ts t k : Nat) : srcA ts t k = (t == ts && k == 0) := rfl
def neO (d : Nat) : Operand → Prop
  | .tmp t => t ≠ d
  | _ => True
@[simp] theorem neO_tmp (d t : Nat) : neO d (.tmp t) = (t ≠ d) := rfl
@[simp] theorem neO_const (d : Nat) (v : Value) : neO d (.const v) = True := rfl
theorem neO_eq (d : Nat) (x : Operand) : (∀ t, x = .tmp t → t ≠ d) = neO d x := by
  cases x <;> simp [neO]
def tkEl (E : TypeId) : Option (Option TypeId) → Prop
  | some none => True
  | some (some E') => E' = E
  | none => False
@[simp] theorem tkEl_nil (E : TypeId) : tkEl E (some none) = True := rfl
@[simp] theorem tkEl_some (E E' : TypeId) : tkEl E (some (some E')) = (E' = E) := rfl
theorem tkEl_eq (E : TypeId) (o : Option (Option TypeId)) : (∃ E0, o = some E0 ∧ (E0 = none ∨ E0 = some E)) = tkEl E o := by
  rcases o with _ | _ | E' <;> simp [tkEl]
@[simp] theorem inCel_sl (base k : Nat) (es : List (List AV)) : inCel base k (AV.sl es) = (k == 0) := rfl
@[simp] theorem inCel_agg (base k : Nat) (cs : List AV) : inCel base k (AV.agg cs) = (Nat.ble 1 k && Nat.ble k cs.length) := rfl
@[simp] theorem ev_move (P : Program) (st : St) (x : Operand) : ev P st (.move x) = st.get x := rfl
@[simp] theorem evc_move (P : Program) (st : St) (y : Bool) (x : Operand) : evc P st y (.move x) = st.ok y x := rfl
@[simp] theorem ev_assign (P : Program) (st : St) (x : Operand) : ev P st (.assign x) = st.get x := rfl
@[simp] theorem evc_assign (P : Program) (st : St) (y : Bool) (x : Operand) : evc P st y (.assign x) = st.ok y x := rfl
def pickA : AV → AV → AV → AV
  | .imm (.bool c), .imm (.bool p), .imm (.bool q) => .imm (.bool (if c then p else q))
  | _, _, _ => .dead
@[simp] theorem pickA_b (c p q : Bool) : pickA (.imm (.bool c)) (.imm (.bool p)) (.imm (.bool q)) = .imm (.bool (if c then p else q)) := rfl
@[simp] theorem ev_pick (P : Program) (st : St) (c a b : Operand) : ev P st (.pick c a b) = pickA (st.get c) (st.get a) (st.get b) := rfl
def pickC (st : St) (y : Bool) (a b : Operand) : AV → AV → AV → Prop
  | .imm (.bool c), .imm (.bool _), .imm (.bool _) => st.ok (y && c) a ∧ st.ok (y && !c) b
  | _, _, _ => False
@[simp] theorem pickC_b (st : St) (y : Bool) (a b : Operand) (c p q : Bool) : pickC st y a b (.imm (.bool c)) (.imm (.bool p)) (.imm (.bool q)) = (st.ok (y && c) a ∧ st.ok (y && !c) b) := rfl
@[simp] theorem evc_pick (P : Program) (st : St) (y : Bool) (c a b : Operand) : evc P st y (.pick c a b) = (st.ok y c ∧ pickC st y a b (st.get c) (st.get a) (st.get b)) := rfl
@[simp] theorem ev_nilCheck (P : Program) (st : St) (x : Operand) : ev P st (.nilCheck x) = st.get x := rfl
def adrC : AV → Prop
  | .ref _ _ => True
  | .ptr _ => True
  | _ => False
@[simp] theorem adrC_imm  (v : Value) : adrC (AV.imm v) = False := rfl
@[simp] theorem adrC_ptr  (cs : List AV) : adrC (AV.ptr cs) = True := rfl
@[simp] theorem adrC_ref  (r off : Nat) : adrC (AV.ref r off) = True := rfl
@[simp] theorem adrC_dead   : adrC (AV.dead) = False := rfl
@[simp] theorem evc_nilCheck (P : Program) (st : St) (y : Bool) (x : Operand) : evc P st y (.nilCheck x) = (st.ok y x ∧ adrC (st.get x)) := rfl
def ldB (P : Program) (T : TypeId) (off : Nat) : AV → AV
  | .box _ cs => ldA P T (cs.drop off)
  | _ => .dead
@[simp] theorem ldB_box (P : Program) (T : TypeId) (off : Nat) (T' : TypeId) (cs : List AV) : ldB P T off (.box T' cs) = ldA P T (cs.drop off) := rfl
def loadA (P : Program) (T : TypeId) (st : St) : AV → AV
  | .ref r off => ldB P T off (st.val r)
  | .ptr cs => ldA P T cs
  | _ => .dead
@[congr] theorem loadA_congr (P : Program) (T : TypeId) (st : St) {a a' : AV} (h : a = a') : loadA P T st a = loadA P T st a' := by rw [h]
@[simp] theorem loadA_ref (P : Program) (T : TypeId) (st : St) (r off : Nat) : loadA P T st (.ref r off) = ldB P T off (st.val r) := rfl
@[simp] theorem loadA_ptr (P : Program) (T : TypeId) (st : St) (cs : List AV) : loadA P T st (.ptr cs) = ldA P T cs := rfl
@[simp] theorem ev_load (P : Program) (st : St) (T : TypeId) (x : Operand) : ev P st (.load T x) = loadA P T st (st.get x) := rfl
@[simp] theorem ldA_eq (P : Program) (T : TypeId) (cs : List AV) : ldA P T cs = if isRowT P T then .agg (cs.take (szP P T)) else cs.headD .dead := rfl
@[simp] theorem ldC_eq (P : Program) (T : TypeId) (cs : List AV) : ldC P T cs = if isRowT P T then infP P T = true ∧ szP P T ≤ cs.length else undP P T = true ∧ 0 < cs.length := rfl
def ldBC (P : Program) (T : TypeId) (off : Nat) (y : Bool) : AV → Prop
  | .box _ cs => y = true → ldC P T (cs.drop off)
  | _ => False
@[simp] theorem ldBC_box (P : Program) (T : TypeId) (off : Nat) (y : Bool) (T' : TypeId) (cs : List AV) : ldBC P T off y (.box T' cs) = (y = true → ldC P T (cs.drop off)) := rfl
def loadC (P : Program) (T : TypeId) (st : St) (y : Bool) : AV → Prop
  | .ref r off => ldBC P T off y (st.val r)
  | .ptr cs => y = true → ldC P T cs
  | _ => False
@[congr] theorem loadC_congr (P : Program) (T : TypeId) (st : St) (y : Bool) {a a' : AV} (h : a = a') : loadC P T st y a = loadC P T st y a' := by rw [h]
@[simp] theorem loadC_ref (P : Program) (T : TypeId) (st : St) (y : Bool) (r off : Nat) : loadC P T st y (.ref r off) = ldBC P T off y (st.val r) := rfl
@[simp] theorem loadC_ptr (P : Program) (T : TypeId) (st : St) (y : Bool) (cs : List AV) : loadC P T st y (.ptr cs) = (y = true → ldC P T cs) := rfl
@[simp] theorem evc_load (P : Program) (st : St) (y : Bool) (T : TypeId) (x : Operand) : evc P st y (.load T x) = (st.ok y x ∧ loadC P T st y (st.get x)) := rfl
def addrA : Option (Nat × TypeId) → AV → AV
  | some (o, _), .ref r off => .ref r (off + o)
  | some (o, _), .ptr cs => .ptr (cs.drop o)
  | _, _ => .dead
@[simp] theorem addrA_ref (o : Nat) (T : TypeId) (r off : Nat) : addrA (some (o, T)) (.ref r off) = .ref r (off + o) := rfl
@[simp] theorem addrA_ptr (o : Nat) (T : TypeId) (cs : List AV) : addrA (some (o, T)) (.ptr cs) = .ptr (cs.drop o) := rfl
@[simp] theorem ev_fieldAddr (P : Program) (st : St) (S : TypeId) (x : Operand) (f : Nat) : ev P st (.fieldAddr S x f) = addrA (fldP P S f) (st.get x) := by
  simp only [ev, fldP]
  cases P.underlying S with
  | none => cases st.get x <;> rfl
  | some d =>
    cases d with
    | struct fs =>
      simp only
      cases fs[f]? with
      | none => cases st.get x <;> rfl
      | some fl => cases st.get x <;> rfl
    | _ => cases st.get x <;> rfl
def addrC (P : Program) : Option (Nat × TypeId) → AV → Prop
  | some (_, T), a => szP P T ≠ 0 ∧ adrC a
  | none, _ => False
@[simp] theorem addrC_some (P : Program) (o : Nat) (T : TypeId) (a : AV) : addrC P (some (o, T)) a = (szP P T ≠ 0 ∧ adrC a) := rfl
@[simp] theorem evc_fieldAddr (P : Program) (st : St) (y : Bool) (S : TypeId) (x : Operand) (f : Nat) : evc P st y (.fieldAddr S x f) = (st.ok y x ∧ addrC P (fldP P S f) (st.get x)) := by
  simp only [evc, fldP]
  cases P.underlying S with
  | none => rfl
  | some d =>
    cases d with
    | struct fs =>
      simp only
      cases fs[f]? with
      | none => rfl
      | some fl => cases st.get x <;> rfl
    | _ => rfl
def idxA : AV → AV → AV
  | .sl es, i => .ptr (es.getD (intOfA i).toNat [])
  | _, _ => .dead
@[simp] theorem idxA_sl (es : List (List AV)) (k : IntKind) (n : Int) : idxA (.sl es) (.imm (.int k n)) = .ptr (es.getD n.toNat []) := rfl
@[simp] theorem ev_indexAddr (P : Program) (st : St) (S : TypeId) (x i : Operand) : ev P st (.indexAddr S x i) = idxA (st.get x) (st.get i) := by
  simp only [ev]
  cases st.get x <;> rfl
def idxC (P : Program) (y : Bool) : Option TypeId → AV → AV → Prop
  | some E, .sl es, i => isIntA i ∧ infP P E = true ∧ (y = true → 0 ≤ intOfA i ∧ intOfA i < es.length ∧ (es.getD (intOfA i).toNat []).length = szP P E)
  | _, _, _ => False
@[simp] theorem idxC_sl (P : Program) (y : Bool) (E : TypeId) (es : List (List AV)) (k : IntKind) (n : Int) : idxC P y (some E) (.sl es) (.imm (.int k n)) = (infP P E = true ∧ (y = true → 0 ≤ n ∧ n < es.length ∧ (es.getD n.toNat []).length = szP P E)) := propext ⟨fun h => h.2, fun h => ⟨trivial, h⟩⟩
@[simp] theorem evc_indexAddr (P : Program) (st : St) (y : Bool) (S : TypeId) (x i : Operand) : evc P st y (.indexAddr S x i) = (st.ok y x ∧ st.ok y i ∧ idxC P y (elemP P S) (st.get x) (st.get i)) := by
  simp only [evc, elemP]
  cases P.underlying S with
  | none => simp [idxC]
  | some d =>
    cases d with
    | slice e => cases st.get x <;> simp [idxC, infP]
    | _ => simp [idxC]
def idxSA : AV → AV → AV
  | .imm (.string s), i => .imm (.int .u8 ((s.data[(intOfA i).toNat]?).getD 0).toNat)
  | _, _ => .dead
def idxSC (y : Bool) : AV → AV → Prop
  | .imm (.string s), i => isIntA i ∧ (y = true → 0 ≤ intOfA i ∧ intOfA i < s.size)
  | _, _ => False
def bndA : AV → Nat
  | .imm (.int _ n) => n.toNat
  | _ => 0
@[simp] theorem bndA_int (k : IntKind) (n : Int) : bndA (.imm (.int k n)) = n.toNat := rfl
@[simp] theorem boundA_none (st : St) (d : Nat) : boundA st none d = d := rfl
@[simp] theorem boundA_some (st : St) (x : Operand) (d : Nat) : boundA st (some x) d = bndA (st.get x) := by
  simp only [boundA]
  cases st.get x with
  | imm v => cases v <;> rfl
  | _ => rfl
def bndC (hi : Nat) : AV → Prop
  | .imm (.int _ n) => 0 ≤ n ∧ n ≤ hi
  | _ => False
@[simp] theorem bndC_int (hi : Nat) (k : IntKind) (n : Int) : bndC hi (.imm (.int k n)) = (0 ≤ n ∧ n ≤ hi) := rfl
@[simp] theorem boundC_none (st : St) (y : Bool) (hi : Nat) : boundC st y none hi = True := rfl
@[simp] theorem boundC_some (st : St) (y : Bool) (x : Operand) (hi : Nat) : boundC st y (some x) hi = (st.ok y x ∧ bndC hi (st.get x)) := by
  simp only [boundC]
  cases st.get x with
  | imm v => cases v <;> simp [bndC, isIntA, intOfA]
  | _ => simp [bndC, isIntA]
def sliceA (st : St) (lo hi : Option Operand) : AV → AV
  | .imm (.string s) => .imm (.string (s.extract (boundA st lo 0) (boundA st hi s.size)))
  | .sl es => .sl ((es.take (boundA st hi es.length)).drop (boundA st lo 0))
  | _ => .dead
@[congr] theorem sliceA_congr (st : St) (lo hi : Option Operand) {a a' : AV} (h : a = a') : sliceA st lo hi a = sliceA st lo hi a' := by rw [h]
@[simp] theorem sliceA_sl (st : St) (lo hi : Option Operand) (es : List (List AV)) : sliceA st lo hi (.sl es) = .sl ((es.take (boundA st hi es.length)).drop (boundA st lo 0)) := rfl
@[simp] theorem ev_slice (P : Program) (st : St) (S : TypeId) (x : Operand) (lo hi mx : Option Operand) : ev P st (.slice S x lo hi mx) = sliceA st lo hi (st.get x) := by
  simp only [ev]
  cases st.get x with
  | imm v => cases v <;> rfl
  | _ => rfl
def sliceC (P : Program) (st : St) (y : Bool) (S : TypeId) (lo hi : Option Operand) : AV → Prop
  | .imm (.string s) => strP P S = true ∧ boundC st y hi s.size ∧ boundC st y lo (boundA st hi s.size)
  | .sl es => onE (elemP P S) fun e => infP P e = true ∧ boundC st y hi es.length ∧ boundC st y lo (boundA st hi es.length) ∧ ∀ x ∈ es, x.length = szP P e
  | _ => False
@[congr] theorem sliceC_congr (P : Program) (st : St) (y : Bool) (S : TypeId) (lo hi : Option Operand) {a a' : AV} (h : a = a') : sliceC P st y S lo hi a = sliceC P st y S lo hi a' := by rw [h]
@[simp] theorem sliceC_sl (P : Program) (st : St) (y : Bool) (S : TypeId) (lo hi : Option Operand) (es : List (List AV)) : sliceC P st y S lo hi (.sl es) = onE (elemP P S) fun e => infP P e = true ∧ boundC st y hi es.length ∧ boundC st y lo (boundA st hi es.length) ∧ ∀ x ∈ es, x.length = szP P e := rfl
@[simp] theorem evc_slice (P : Program) (st : St) (y : Bool) (S : TypeId) (x : Operand) (lo hi : Option Operand) : evc P st y (.slice S x lo hi none) = (st.ok y x ∧ sliceC P st y S lo hi (st.get x)) := by
  simp only [evc, Option.isNone_none, true_and]
  refine congrArg _ ?_
  cases hu : P.underlying S with
  | none =>
    cases st.get x with
    | imm v => cases v <;> simp [sliceC, strP, hu]
    | _ => simp [sliceC, elemP, onE, hu]
  | some d =>
    cases d with
    | string =>
      cases st.get x with
      | imm v => cases v <;> simp [sliceC, strP, hu]
      | _ => simp [sliceC, elemP, onE, hu]
    | slice e =>
      cases st.get x with
      | imm v => cases v <;> simp [sliceC, strP, hu]
      | _ => simp [sliceC, elemP, onE, hu, infP]
    | _ =>
      cases st.get x with
      | imm v => cases v <;> simp [sliceC, strP, hu]
      | _ => simp [sliceC, elemP, onE, hu]
@[simp] theorem ev_binOp (P : Program) (st : St) (op : BinOp) (T : TypeId) (x z : Operand) (u : TypeId) : ev P st (.binOp op T x z u) = binA op (st.get x) (st.get z) := rfl
@[simp] theorem evc_binOp (P : Program) (st : St) (y : Bool) (op : BinOp) (T : TypeId) (x z : Operand) (u : TypeId) : evc P st y (.binOp op T x z u) = (st.ok y x ∧ st.ok y z ∧ binC P op T (isConstO x || isConstO z) (st.get x) (st.get z)) := rfl
@[simp] theorem isConst_tmp (t : Nat) : isConstO (.tmp t) = false := rfl
@[simp] theorem isConst_const (v : Value) : isConstO (.const v) = true := rfl
@[simp] theorem binA_int (op : BinOp) (k k' : IntKind) (x y : Int) : binA op (.imm (.int k x)) (.imm (.int k' y)) = intA op k x y := rfl
@[simp] theorem binA_str (op : BinOp) (x y : ByteArray) : binA op (.imm (.string x)) (.imm (.string y)) = strA op x y := rfl
@[simp] theorem binA_bool (op : BinOp) (x y : Bool) : binA op (.imm (.bool x)) (.imm (.bool y)) = eqlA op (x == y) := rfl
@[simp] theorem binA_agg (op : BinOp) (as bs : List AV) : binA op (.agg as) (.agg bs) = eqlA op (eqCs as bs) := rfl
@[simp] theorem eqCs_cons (a b : AV) (as bs : List AV) : eqCs (a :: as) (b :: bs) = (eqV a b && eqCs as bs) := rfl
@[simp] theorem eqCs_nil (bs : List AV) : eqCs [] bs = true := by cases bs <;> rfl
@[simp] theorem eqV_int (k k' : IntKind) (x y : Int) : eqV (.imm (.int k x)) (.imm (.int k' y)) = (x == y) := rfl
@[simp] theorem eqV_str (x y : ByteArray) : eqV (.imm (.string x)) (.imm (.string y)) = (x.toList == y.toList) := rfl
@[simp] theorem binC_agg (P : Program) (op : BinOp) (T : TypeId) (c : Bool) (as bs : List AV) : binC P op T c (.agg as) (.agg bs) = (eqlC op ∧ eqTP P T = true ∧ eqFC P (typsP P T) as bs) := rfl
@[simp] theorem eqFC_nil (P : Program) : eqFC P [] [] [] = True := rfl
@[simp] theorem eqFC_cons (P : Program) (t : TypeId) (ts : List TypeId) (a b : AV) (as bs : List AV) : eqFC P (t :: ts) (a :: as) (b :: bs) = (eq1C P t a b ∧ eqFC P ts as bs) := rfl
@[simp] theorem eq1C_int (P : Program) (t : TypeId) (k k' : IntKind) (x y : Int) : eq1C P t (.imm (.int k x)) (.imm (.int k' y)) = ((kindP P t).isSome = true ∧ k = k') := rfl
@[simp] theorem eq1C_str (P : Program) (t : TypeId) (x y : ByteArray) : eq1C P t (.imm (.string x)) (.imm (.string y)) = (strP P t = true) := rfl
theorem boolP_eq (P : Program) (T : TypeId) : isBoolT P T = (boolP P T = true) := by
  unfold isBoolT boolP
  cases P.underlying T with
  | none => simp
  | some d => cases d <;> simp
theorem ptrP_eq (P : Program) (T : TypeId) : isPtrT P T = (ptrP P T = true) := by
  unfold isPtrT ptrP
  cases P.underlying T with
  | none => simp
  | some d => cases d <;> simp
theorem ifcP_eq (P : Program) (T : TypeId) : isIfcT P T = (ifcP P T = true) := by
  unfold isIfcT ifcP
  cases P.underlying T with
  | none => simp
  | some d => cases d <;> simp
@[simp] theorem binC_int (P : Program) (op : BinOp) (T : TypeId) (c : Bool) (k k' : IntKind) (x y : Int) : binC P op T c (.imm (.int k x)) (.imm (.int k' y)) = (k = k' ∧ intC op y) := rfl
@[simp] theorem binC_str (P : Program) (op : BinOp) (T : TypeId) (c : Bool) (x y : ByteArray) : binC P op T c (.imm (.string x)) (.imm (.string y)) = strC op x y := rfl
@[simp] theorem binC_bool (P : Program) (op : BinOp) (T : TypeId) (c : Bool) (x y : Bool) : binC P op T c (.imm (.bool x)) (.imm (.bool y)) = (eqlC op ∧ boolP P T = true) := by rw [← boolP_eq]; rfl
@[simp] theorem binC_nil (P : Program) (op : BinOp) (T : TypeId) (c : Bool) : binC P op T c (.imm (.pointer none)) (.imm (.pointer none)) = (eqlC op ∧ ptrP P T = true) := by rw [← ptrP_eq]; rfl
@[simp] theorem binC_ptr (P : Program) (op : BinOp) (T : TypeId) (c : Bool) (cs : List AV) : binC P op T c (.ptr cs) (.imm (.pointer none)) = (eqlC op ∧ ptrP P T = true) := by rw [← ptrP_eq]; rfl
@[simp] theorem binC_nilI (P : Program) (op : BinOp) (T : TypeId) (c : Bool) : binC P op T c (.imm .nilIface) (.imm .nilIface) = (eqlC op ∧ ifcP P T = true ∧ c = true) := by rw [← ifcP_eq]; rfl
@[simp] theorem binC_ifc (P : Program) (op : BinOp) (T : TypeId) (c : Bool) (T' : TypeId) (a : AV) : binC P op T c (.ifc T' a) (.imm .nilIface) = (eqlC op ∧ ifcP P T = true) := by rw [← ifcP_eq]; rfl
@[simp] theorem intA_add (k : IntKind) (x y : Int) : intA .add k x y = .imm (.int k (k.wrap (x + y))) := rfl
@[simp] theorem intC_add (y : Int) : intC .add y = True := rfl
@[simp] theorem intA_sub (k : IntKind) (x y : Int) : intA .sub k x y = .imm (.int k (k.wrap (x - y))) := rfl
@[simp] theorem intC_sub (y : Int) : intC .sub y = True := rfl
@[simp] theorem intA_eql (k : IntKind) (x y : Int) : intA .eql k x y = .imm (.bool (x == y)) := rfl
@[simp] theorem intC_eql (y : Int) : intC .eql y = True := rfl
@[simp] theorem intA_neq (k : IntKind) (x y : Int) : intA .neq k x y = .imm (.bool (x != y)) := rfl
@[simp] theorem intC_neq (y : Int) : intC .neq y = True := rfl
@[simp] theorem intA_lss (k : IntKind) (x y : Int) : intA .lss k x y = .imm (.bool (decide (x < y))) := rfl
@[simp] theorem intC_lss (y : Int) : intC .lss y = True := rfl
@[simp] theorem intA_leq (k : IntKind) (x y : Int) : intA .leq k x y = .imm (.bool (decide (x ≤ y))) := rfl
@[simp] theorem intC_leq (y : Int) : intC .leq y = True := rfl
@[simp] theorem intA_gtr (k : IntKind) (x y : Int) : intA .gtr k x y = .imm (.bool (decide (x > y))) := rfl
@[simp] theorem intC_gtr (y : Int) : intC .gtr y = True := rfl
@[simp] theorem intA_geq (k : IntKind) (x y : Int) : intA .geq k x y = .imm (.bool (decide (x ≥ y))) := rfl
@[simp] theorem intC_geq (y : Int) : intC .geq y = True := rfl
@[simp] theorem strA_eql (x y : ByteArray) : strA .eql x y = .imm (.bool (x.toList == y.toList)) := rfl
@[simp] theorem strC_eql (x y : ByteArray) : strC .eql x y = True := rfl
@[simp] theorem strA_leq (x y : ByteArray) : strA .leq x y = .imm (.bool (Op.bytesLess x.toList y.toList || x.toList == y.toList)) := rfl
@[simp] theorem strC_leq (x y : ByteArray) : strC .leq x y = True := rfl
@[simp] theorem strA_geq (x y : ByteArray) : strA .geq x y = .imm (.bool (!(Op.bytesLess x.toList y.toList))) := rfl
@[simp] theorem strC_geq (x y : ByteArray) : strC .geq x y = True := rfl
@[simp] theorem eqlA_eql (b : Bool) : eqlA .eql b = .imm (.bool b) := rfl
@[simp] theorem eqlA_neq (b : Bool) : eqlA .neq b = .imm (.bool (!b)) := rfl
@[simp] theorem eqlC_eql : eqlC .eql = True := rfl
@[simp] theorem eqlC_neq : eqlC .neq = True := rfl
@[simp] theorem ev_unOp (P : Program) (st : St) (u : UnOp) (T : TypeId) (x : Operand) : ev P st (.unOp u T x) = unA u (st.get x) := rfl
@[simp] theorem evc_unOp (P : Program) (st : St) (y : Bool) (u : UnOp) (T : TypeId) (x : Operand) : evc P st y (.unOp u T x) = (st.ok y x ∧ unC u (st.get x)) := rfl
@[simp] theorem unA_not (b : Bool) : unA .not (.imm (.bool b)) = .imm (.bool (!b)) := rfl
@[simp] theorem unC_not (b : Bool) : unC .not (.imm (.bool b)) = True := eq_true rfl
def cvA (o : Option IntKind) : AV → AV
  | .imm (.int _ n) => match o with
    | some k => .imm (.int k (k.wrap n))
    | none => .dead
  | .imm (.string s) => .imm (.string s)
  | _ => .dead
def cvC (P : Program) (S D : TypeId) : AV → Prop
  | .imm (.int _ _) => (kindP P D).isSome = true ∧ undP P S = true
  | .imm (.string _) => strP P D = true ∧ strP P S = true
  | _ => False
@[simp] theorem ev_makeInterface (P : Program) (st : St) (T : TypeId) (x : Operand) : ev P st (.makeInterface T x) = .ifc T (st.get x) := rfl
@[simp] theorem evc_makeInterface (P : Program) (st : St) (y : Bool) (T : TypeId) (x : Operand) : evc P st y (.makeInterface T x) = (st.ok y x ∧ (st.get x).shared = true ∧ ifcP P T = false ∧ undP P T = true) := by
  simp only [evc, ifcP, undP]
  cases P.underlying T with
  | none => simp
  | some d => cases d <;> simp
def tupA (j : Nat) : AV → AV
  | .tup as => as.getD j .dead
  | _ => .dead
@[simp] theorem tupA_tup (j : Nat) (as : List AV) : tupA j (.tup as) = nth .dead as j := nth_eq _ _ _
@[simp] theorem ev_extract (P : Program) (st : St) (x : Operand) (j : Nat) : ev P st (.extract x j) = tupA j (st.get x) := rfl
def tupC (j : Nat) : AV → Prop
  | .tup as => j < as.length
  | _ => False
@[simp] theorem tupC_tup (j : Nat) (as : List AV) : tupC j (.tup as) = (j < as.length) := rfl
@[simp] theorem evc_extract (P : Program) (st : St) (y : Bool) (x : Operand) (j : Nat) : evc P st y (.extract x j) = (st.ok y x ∧ tupC j (st.get x)) := rfl
def lenA : AV → AV
  | .sl es => .imm (.int .i64 es.length)
  | .imm (.string s) => .imm (.int .i64 s.size)
  | _ => .dead
@[simp] theorem lenA_sl (es : List (List AV)) : lenA (.sl es) = .imm (.int .i64 es.length) := rfl
@[simp] theorem lenA_str (s : ByteArray) : lenA (.imm (.string s)) = .imm (.int .i64 s.size) := rfl
@[simp] theorem ev_len (P : Program) (st : St) (x : Operand) (T : TypeId) : ev P st (.call ⟨.builtin .len, #[x], #[T]⟩) = lenA (st.get x) := by
  simp only [ev]
  show (match st.get x with | .sl es => AV.imm (.int .i64 es.length) | .imm (.string s) => .imm (.int .i64 s.size) | _ => .dead) = _
  cases st.get x with
  | imm v => cases v <;> rfl
  | _ => rfl
def lenC (P : Program) (T : TypeId) : AV → Prop
  | .sl _ => (elemP P T).isSome = true
  | .imm (.string _) => strP P T = true
  | _ => False
@[simp] theorem lenC_sl (P : Program) (T : TypeId) (es : List (List AV)) : lenC P T (.sl es) = ((elemP P T).isSome = true) := rfl
@[simp] theorem lenC_str (P : Program) (T : TypeId) (s : ByteArray) : lenC P T (.imm (.string s)) = (strP P T = true) := rfl
@[simp] theorem evc_len (P : Program) (st : St) (y : Bool) (x : Operand) (T : TypeId) : evc P st y (.call ⟨.builtin .len, #[x], #[T]⟩) = (st.ok y x ∧ lenC P T (st.get x)) := by
  simp only [evc]
  show (st.ok y x ∧ (match st.get x with | .sl _ => (match P.underlying T with | some (.slice _) => True | _ => False) | .imm (.string _) => (match P.underlying T with | some .string => True | _ => False) | _ => False)) = _
  refine congrArg _ ?_
  cases st.get x with
  | sl es =>
    simp only [lenC, elemP]
    cases P.underlying T with
    | none => simp
    | some d => cases d <;> simp
  | imm v =>
    cases v with
    | string s =>
      simp only [lenC, strP]
      cases P.underlying T with
      | none => simp
      | some d => cases d <;> simp
    | _ => rfl
  | _ => rfl
def bldA (st : St) (l : List (Nat × Operand)) : Option (List Value × List (Nat × Nat)) → AV
  | some z => .agg (fillA st z.2 (ccL z.1) l)
  | none => .dead
@[congr] theorem bldA_congr (st : St) (l : List (Nat × Operand)) {o o'} (h : o = o') : bldA st l o = bldA st l o' := by rw [h]
@[simp] theorem bldA_some (st : St) (l : List (Nat × Operand)) (zs : List Value) (pl : List (Nat × Nat)) : bldA st l (some (zs, pl)) = .agg (fillA st pl (ccL zs) l) := rfl
@[simp] theorem fillA_nil (st : St) (pl : List (Nat × Nat)) (cs : List AV) : fillA st pl cs [] = cs := rfl
@[simp] theorem fillA_cons (st : St) (pl : List (Nat × Nat)) (cs : List AV) (i : Nat) (x : Operand) (l : List (Nat × Operand)) : fillA st pl cs ((i, x) :: l) = fillA st pl (spliceL cs (plcO (optN pl i)) (st.get x).cells) l := by rw [← optN_eq]; rfl
@[simp] theorem plcO_some (o s : Nat) : plcO (some (o, s)) = o := rfl
@[simp] theorem plcC_some (o s k n : Nat) : plcC (some (o, s)) k n = (k = s ∧ o + k ≤ n) := rfl
@[simp] theorem fillC_nil (st : St) (y : Bool) (pl : List (Nat × Nat)) (n : Nat) : fillC st y pl n [] = True := rfl
@[simp] theorem fillC_cons (st : St) (y : Bool) (pl : List (Nat × Nat)) (n i : Nat) (x : Operand) (l : List (Nat × Operand)) : fillC st y pl n ((i, x) :: l) = (st.ok y x ∧ (st.get x).shared = true ∧ (st.get x).whole = true ∧ plcC (optN pl i) (st.get x).cells.length n ∧ fillC st y pl n l) := by rw [← optN_eq]; rfl
@[simp] theorem ev_build (P : Program) (st : St) (T : TypeId) (l : List (Nat × Operand)) : ev P st (.build T (List.toArray l)) = bldA st l (zplP P T) := by
  simp only [ev]
  cases zplP P T with
  | none => rfl
  | some z => simp only [bldA, ccL_eq]
def bldC (st : St) (y : Bool) (l : List (Nat × Operand)) : Option (List Value × List (Nat × Nat)) → Prop
  | some z => fillC st y z.2 z.1.length l
  | none => False
@[congr] theorem bldC_congr (st : St) (y : Bool) (l : List (Nat × Operand)) {o o'} (h : o = o') : bldC st y l o = bldC st y l o' := by rw [h]
@[simp] theorem bldC_some (st : St) (y : Bool) (l : List (Nat × Operand)) (zs : List Value) (pl : List (Nat × Nat)) : bldC st y l (some (zs, pl)) = fillC st y pl zs.length l := rfl
@[simp] theorem evc_build (P : Program) (st : St) (y : Bool) (T : TypeId) (l : List (Nat × Operand)) : evc P st y (.build T (List.toArray l)) = bldC st y l (zplP P T) := by
  simp only [evc]
  cases zplP P T <;> rfl
def frzA (st : St) (t : Nat) : AV → St
  | .box _ cs => st.put noSrc t (.ptr cs) noTok
  | _ => st
@[simp] theorem frzA_imm (st : St) (t : Nat) (v : Value) : frzA st t (AV.imm v) = st := rfl
@[simp] theorem frzA_sl (st : St) (t : Nat) (es : List (List AV)) : frzA st t (AV.sl es) = st := rfl
@[simp] theorem frzA_ptr (st : St) (t : Nat) (cs : List AV) : frzA st t (AV.ptr cs) = st := rfl
@[simp] theorem frzA_agg (st : St) (t : Nat) (cs : List AV) : frzA st t (AV.agg cs) = st := rfl
@[simp] theorem frzA_cnd (st : St) (t : Nat) (y' : Bool) (a : AV) : frzA st t (AV.cnd y' a) = st := rfl
@[simp] theorem frzA_dead (st : St) (t : Nat)  : frzA st t (AV.dead) = st := rfl
@[simp] theorem frzL_nil (st : St) : frzL st [] = st := rfl
@[simp] theorem frzL_tmp (st : St) (t : Nat) (l : List Operand) : frzL st (.tmp t :: l) = frzL (frzA st t (st.val t)) l := by
  have : frzX st (.tmp t) = frzA st t (st.val t) := by
    show frzT st t = _
    unfold frzT
    cases st.val t <;> rfl
  rw [← this]; rfl
@[simp] theorem frzL_const (st : St) (v : Value) (l : List Operand) : frzL st (.const v :: l) = frzL st l := rfl
@[simp] theorem frzL_func (st : St) (g : FuncId) (l : List Operand) : frzL st (.func g :: l) = frzL st l := rfl
def yC (want : Bool) : AV → Option Bool
  | .imm (.bool b) => some (b == want)
  | .cnd y (.imm (.bool b)) => some (y && (b == want))
  | _ => none
@[simp] theorem yC_b (want b : Bool) : yC want (.imm (.bool b)) = some (b == want) := rfl
@[simp] theorem yC_c (want y b : Bool) : yC want (.cnd y (.imm (.bool b))) = some (y && (b == want)) := rfl
def yB (st : St) (want : Bool) : Option Nat → Option Bool
  | none => none
  | some t => yC want (st.val t)
@[simp] theorem yB_some (st : St) (want : Bool) (t : Nat) : yB st want (some t) = yC want (st.val t) := rfl
@[simp] theorem yA_eq (l : List Oper) (st : St) (j : Nat) (want : Bool) : yA (dstA l) st j want = yB st want (dstL l .mk j) := by
  show yA _ _ _ _ = yB st want ((dstA l).getD j none)
  simp only [yA]
  cases (dstA l).getD j none with
  | none => rfl
  | some t =>
    simp only [yB]
    cases st.val t with
    | imm v => cases v <;> rfl
    | cnd y a =>
      cases a with
      | imm v => cases v <;> rfl
      | _ => rfl
    | _ => rfl
section
variable {P : Program} {N : Nat} {nv : List Nat} {L : List Nat} {rts : List (Nat × Nat)}
def wRt (P : Program) (N : Nat) (L : List Nat) (ds : List (Option Nat)) (l : List Oper) (Q : St → Prop) (_ : Tag (ds, l, Q)) (st : St) : Prop := wR P N L ds l Q st
def wDt (P : Program) (N : Nat) (L : List Nat) (rts : List (Nat × Nat)) (ds : List (Option Nat)) (l : List Oper) (Q : St → Prop) (_ : Tag (ds, l, Q)) (st : St) : Prop := wD P N L rts ds l Q st
def wFt (P : Program) (N : Nat) (nv : List Nat) (L : List Nat) (rts : List (Nat × Nat)) (c : Code) (Q : Exit → St → Prop) (_ : Tag (c, Q)) (st : St) : Prop := wF P N nv L rts c Q st
def wGt (P : Program) (N : Nat) (L : List Nat) (ds : List (Option Nat)) (o : Oper) (rest : List Oper) (Q : St → Prop) (_ : Tag (ds, o, rest, Q)) (st : St) : Prop := opV P N L ds o (fun e => wR P N L ds rest Q (st.app e)) st
@[simp] theorem wF_skip (Q : Exit → St → Prop) (tg) (st : St) : wFt P N nv L rts .skip Q tg st = Q .normal st := rfl
@[simp] theorem wF_regF (id : Nat) (l : List Oper) (Q : Exit → St → Prop) (tg) (st : St) : wFt P N nv L rts (.region id (List.toArray l) false) Q tg st = wRt P N L (dstA l) l (fun s => Q .normal (litOf nv s)) .mk st := rfl
@[simp] theorem wF_regT (id : Nat) (l : List Oper) (Q : Exit → St → Prop) (tg) (st : St) : wFt P N nv L rts (.region id (List.toArray l) true) Q tg st = wDt P N L rts (dstA l) l (fun s => Q .normal (litOf nv s)) .mk st := rfl
def seqT (P : Program) (N : Nat) (nv : List Nat) (L : List Nat) (rts : List (Nat × Nat)) (y : Code) (Q : Exit → St → Prop) (_ : Tag (y, Q)) (e : Exit) (s : St) : Prop := seqK (fun _ => wF P N nv L rts y) y Q e s
@[simp] theorem seqT_normal (y : Code) (Q : Exit → St → Prop) (tg) (s : St) : seqT P N nv L rts y Q tg .normal s = wFt P N nv L rts y Q .mk s := rfl
@[simp] theorem seqT_ret (y : Code) (Q : Exit → St → Prop) (tg) (s : St) : seqT P N nv L rts y Q tg .ret s = Q .ret s := rfl
@[simp] theorem seqT_exit (y : Code) (Q : Exit → St → Prop) (tg) (id : Nat) (s : St) : seqT P N nv L rts y Q tg (.exit id) s = Q (.exit id) s := rfl
@[simp] theorem wF_seq (x y : Code) (Q : Exit → St → Prop) (tg) (st : St) : wFt P N nv L rts (.seq x y) Q tg st = wFt P N nv L rts x (seqT P N nv L rts y Q .mk) .mk st := rfl
def blkT (id : Nat) (Q : Exit → St → Prop) (_ : Tag Q) (e : Exit) (s : St) : Prop := blkK id Q e s
@[simp] theorem blkT_normal (id : Nat) (Q : Exit → St → Prop) (tg) (s : St) : blkT id Q tg .normal s = Q .normal s := rfl
@[simp] theorem blkT_ret (id : Nat) (Q : Exit → St → Prop) (tg) (s : St) : blkT id Q tg .ret s = Q .ret s := rfl
@[simp] theorem blkT_exit (id id' : Nat) (Q : Exit → St → Prop) (tg) (s : St) : blkT id Q tg (.exit id') s = if id' = id then Q .normal s else Q (.exit id') s := rfl
@[simp] theorem wF_block (id : Nat) (x : Code) (Q : Exit → St → Prop) (tg) (st : St) : wFt P N nv L rts (.block id x) Q tg st = wFt P N nv L rts x (blkT id Q .mk) .mk st := rfl
@[simp] theorem wF_exit (id : Nat) (Q : Exit → St → Prop) (tg) (st : St) : wFt P N nv L rts (.exit id) Q tg st = Q (.exit id) st := rfl
@[simp] theorem wF_ret (Q : Exit → St → Prop) (tg) (st : St) : wFt P N nv L rts .ret Q tg st = Q .ret st := rfl
def loopT {α : Type} (kp : List Nat) (S : α → St) (I : α → Prop) (m : α → Nat) (n : Nat) (Q : Exit → St → Prop) (_ : Tag (S, I, m, n, Q)) (e : Exit) (s : St) : Prop := loopK kp S I m n Q e s
@[simp] theorem loopT_normal {α : Type} (kp : List Nat) (S : α → St) (I : α → Prop) (m : α → Nat) (n : Nat) (Q : Exit → St → Prop) (tg) (s : St) : loopT kp S I m n Q tg .normal s = ∃ a, litOf kp s = S a ∧ I a ∧ m a < n := rfl
@[simp] theorem loopT_ret {α : Type} (kp : List Nat) (S : α → St) (I : α → Prop) (m : α → Nat) (n : Nat) (Q : Exit → St → Prop) (tg) (s : St) : loopT kp S I m n Q tg .ret s = Q .ret s := rfl
@[simp] theorem loopT_exit {α : Type} (kp : List Nat) (S : α → St) (I : α → Prop) (m : α → Nat) (n : Nat) (Q : Exit → St → Prop) (tg) (id : Nat) (s : St) : loopT kp S I m n Q tg (.exit id) s = Q (.exit id) s := rfl
def wL (P : Program) (N : Nat) (nv : List Nat) (L : List Nat) (rts : List (Nat × Nat)) (x : Code) (Q : Exit → St → Prop) (_ : Tag (x, Q)) (st : St) : Prop := wF P N nv L rts (.loop x) Q st
@[simp] theorem wF_loopL (x : Code) (Q : Exit → St → Prop) (tg) (st : St) : wFt P N nv L rts (.loop x) Q tg st = wL P N nv L rts x Q .mk st := rfl
theorem wF_loop {α : Type} {x : Code} {Q : Exit → St → Prop} (kp : List Nat) (S : α → St) (I : α → Prop) (m : α → Nat) (a0 : α) {st : St} (tg : Tag (x, Q)) (he : litOf kp st = S a0) (h0 : I a0) (hr : ∀ a, I a → wFt P N nv L rts x (loopT kp S I m (m a) Q .mk) .mk (S a)) : wL P N nv L rts x Q tg st :=
  ⟨kp, α, S, I, m, ⟨a0, he, h0⟩, hr⟩
@[simp] theorem endS_one_r (P : Program) (r : ResultVar) (a : AV) (s : St) : endS P [r] a .ret s = (resC P s r ∧ resA P s r = a) := rfl
@[congr] theorem endS_congr (P : Program) (rs : List ResultVar) (a : AV) (e : Exit) {s s' : St} (h : s = s') : endS P rs a e s = endS P rs a e s' := by rw [h]
@[simp] theorem resCL_nil (P : Program) (s : St) : resCL P s [] = True := rfl
@[simp] theorem resCL_cons (P : Program) (s : St) (r : ResultVar) (l : List ResultVar) : resCL P s (r :: l) = (resC P s r ∧ resCL P s l) := rfl
@[simp] theorem resAL_nil (P : Program) (s : St) : resAL P s [] = [] := rfl
@[simp] theorem resAL_cons (P : Program) (s : St) (r : ResultVar) (l : List ResultVar) : resAL P s (r :: l) = resA P s r :: resAL P s l := rfl
def St.setB (st : St) (t : Nat) (v : Bool) : St := ⟨fun u => if u = t then .imm (.bool v) else st.val u, st.tok⟩
theorem setB_same {st : St} {t : Nat} {b : Bool} (h : st.val t = .imm (.bool b)) : st.setB t b = st := by
  have : (fun u => if u = t then AV.imm (.bool b) else st.val u) = st.val := by
    funext u
    by_cases e : u = t
    · subst e; rw [if_pos rfl, h]
    · rw [if_neg e]
  unfold St.setB
  rw [this]
def condT (P : Program) (N : Nat) (nv : List Nat) (L : List Nat) (rts : List (Nat × Nat)) (t : Nat) (x y : Code) (Q : Exit → St → Prop) (_ : Tag (x, y, Q)) (st : St) : AV → Prop
  | .imm (.bool b) => (b = true → wFt P N nv L rts x Q .mk (st.setB t true)) ∧ (b = false → wFt P N nv L rts y Q .mk (st.setB t false))
  | a => okA true a ∧ onB (getA t a) fun b => (b = true → wFt P N nv L rts x Q .mk st) ∧ (b = false → wFt P N nv L rts y Q .mk st)
@[simp] theorem condT_b (t : Nat) (x y : Code) (Q : Exit → St → Prop) (tg) (st : St) (b : Bool) : condT P N nv L rts t x y Q tg st (.imm (.bool b)) = ((b = true → wFt P N nv L rts x Q .mk (st.setB t true)) ∧ (b = false → wFt P N nv L rts y Q .mk (st.setB t false))) := rfl
@[simp] theorem wF_cond (t : Nat) (x y : Code) (Q : Exit → St → Prop) (tg) (st : St) : wFt P N nv L rts (.cond (.tmp t) x y) Q tg st = condT P N nv L rts t x y Q .mk st (st.val t) := by
  have h0 : wFt P N nv L rts (.cond (.tmp t) x y) Q tg st = (st.ok true (.tmp t) ∧ onB (st.get (.tmp t)) fun b => (b = true → wF P N nv L rts x Q st) ∧ (b = false → wF P N nv L rts y Q st)) := rfl
  rw [h0, ok_tmp, get_tmp]
  cases hv : st.val t with
  | imm v =>
    cases v with
    | bool b =>
      simp only [condT, getA_imm, okA_imm, onB_bool, true_and]
      cases b
      · simp [setB_same hv, wFt]
      · simp [setB_same hv, wFt]
    | _ => rfl
  | _ => rfl
theorem fnT {f : FuncId} {fn : Func} {c : Code} {args : List AV} {a : AV} (hmx : P.follows .mixedOrders = true) (nv : List Nat) (L : List Nat) (rts : List (Nat × Nat)) (hf : P.funcs[f]? = some fn) (hb : fn.body = some c) (hn : (fn.name == "runtime.NumGoroutine") = false) (hN : Nat.ble args.length fn.ntmps = true) (hd : drawsAll L rts c = true) (ha : a.final = true)
    (h : wFt P fn.ntmps nv L rts c (endS P fn.results.toList a) .mk (St.args args)) : Has P f args a noTok :=
  fnS hmx nv L rts hf hb hn hN hd ha h
@[simp] theorem wR_nil (ds : List (Option Nat)) (Q : St → Prop) (tg) (st : St) : wRt P N L ds [] Q tg st = Q st := rfl
@[simp] theorem wD_nil (ds : List (Option Nat)) (Q : St → Prop) (tg) (st : St) : wDt P N L rts ds [] Q tg st = Q st := rfl
def rkA (rts : List (Nat × Nat)) (t : Nat) : AV → Prop
  | .ref r _ => r = rootS rts t
  | .cnd _ (.ref r _) => r = rootS rts t
  | .box _ _ => rootS rts t = t
  | .dead => False
  | _ => True
@[simp] theorem rkA_imm (rts : List (Nat × Nat)) (t : Nat) (v : Value) : rkA rts t (.imm v) = True := rfl
@[simp] theorem rkA_sl (rts : List (Nat × Nat)) (t : Nat) (es : List (List AV)) : rkA rts t (.sl es) = True := rfl
@[simp] theorem rkA_ptr (rts : List (Nat × Nat)) (t : Nat) (cs : List AV) : rkA rts t (.ptr cs) = True := rfl
@[simp] theorem rkA_box (rts : List (Nat × Nat)) (t : Nat) (T' : TypeId) (cs : List AV) : rkA rts t (.box T' cs) = (rootS rts t = t) := rfl
@[simp] theorem rkA_ref (rts : List (Nat × Nat)) (t : Nat) (r off : Nat) : rkA rts t (.ref r off) = (r = rootS rts t) := rfl
@[simp] theorem rkA_cnd_imm (rts : List (Nat × Nat)) (t : Nat) (y : Bool) (v : Value) : rkA rts t (.cnd y (.imm v)) = True := rfl
@[simp] theorem rkA_cnd_sl (rts : List (Nat × Nat)) (t : Nat) (y : Bool) (es : List (List AV)) : rkA rts t (.cnd y (.sl es)) = True := rfl
@[simp] theorem rkA_cnd_ptr (rts : List (Nat × Nat)) (t : Nat) (y : Bool) (cs : List AV) : rkA rts t (.cnd y (.ptr cs)) = True := rfl
@[simp] theorem rkA_cnd_ref (rts : List (Nat × Nat)) (t : Nat) (y : Bool) (r off : Nat) : rkA rts t (.cnd y (.ref r off)) = (r = rootS rts t) := rfl
@[simp] theorem rkA_cnd_dead (rts : List (Nat × Nat)) (t : Nat) (y : Bool)  : rkA rts t (.cnd y (.dead)) = True := rfl
@[simp] theorem rkA_dead (rts : List (Nat × Nat)) (t : Nat)  : rkA rts t (.dead) = False := rfl
def rkO (rts : List (Nat × Nat)) (st : St) : Operand → Prop
  | .tmp t => rkA rts t (st.val t)
  | _ => True
@[simp] theorem rkO_tmp (rts : List (Nat × Nat)) (st : St) (t : Nat) : rkO rts st (.tmp t) = rkA rts t (st.val t) := rfl
@[simp] theorem rkO_const (rts : List (Nat × Nat)) (st : St) (v : Value) : rkO rts st (.const v) = True := rfl
@[simp] theorem rkO_func (rts : List (Nat × Nat)) (st : St) (g : FuncId) : rkO rts st (.func g) = True := rfl
theorem rootOk_eq (rts : List (Nat × Nat)) (st : St) (t : Nat) : rootOk rts st t = rkA rts t (st.val t) := by
  unfold rootOk
  cases st.val t with
  | cnd y a => cases a <;> rfl
  | _ => rfl
def rkG (rts : List (Nat × Nat)) (st : St) : Option Nat → Prop
  | some t => rkA rts t (st.val t)
  | none => True
@[simp] theorem rkG_some (rts : List (Nat × Nat)) (st : St) (t : Nat) : rkG rts st (some t) = rkA rts t (st.val t) := rfl
@[simp] theorem rkG_none (rts : List (Nat × Nat)) (st : St) : rkG rts st none = True := rfl
def rkL (rts : List (Nat × Nat)) (st : St) : List Operand → Prop
  | [] => True
  | x :: l => rkO rts st x ∧ rkL rts st l
@[simp] theorem rkL_nil (rts : List (Nat × Nat)) (st : St) : rkL rts st [] = True := rfl
@[simp] theorem rkL_cons (rts : List (Nat × Nat)) (st : St) (x : Operand) (l : List Operand) : rkL rts st (x :: l) = (rkO rts st x ∧ rkL rts st l) := rfl
theorem wD_step {ds : List (Option Nat)} {o : Oper} {rest : List Oper} {Q : St → Prop} {st : St} : wD P N L rts ds (o :: rest) Q st = ((∀ t ∈ opnds ds o, rootOk rts st t) ∧ opV P N L ds o (fun e => e.rootIn (fpV rts ds o) ∧ wD P N L rts ds rest Q (st.app e)) st) := rfl
theorem rk_all {ds : List (Option Nat)} {o : Oper} {st : St} (g : Option Nat) (xs : List Operand) (hg : guardS ds o = g.toList) (hx : o.op.operands.toList = xs) : (∀ t ∈ opnds ds o, rootOk rts st t) = (rkL rts st xs ∧ rkG rts st g) := by
  unfold opnds
  rw [hg, hx]
  have h1 : ∀ l : List Operand, (∀ t ∈ l.flatMap opT, rootOk rts st t) ↔ rkL rts st l := by
    intro l
    induction l with
    | nil => simp [rkL]
    | cons x l ih =>
      simp only [List.flatMap_cons, List.mem_append, rkL, ← ih]
      cases x with
      | tmp t => simp only [opT, List.mem_singleton, rkO, ← rootOk_eq]; exact ⟨fun h => ⟨h t (.inl rfl), fun t' h' => h t' (.inr h')⟩, fun h t' ht => ht.elim (fun e => e ▸ h.1) (h.2 t')⟩
      | _ => simp [opT, rkO]
  refine propext ⟨fun h => ⟨(h1 _).1 fun t ht => h t (List.mem_append_left _ ht), ?_⟩, fun h t ht => ?_⟩
  · cases g with
    | none => trivial
    | some t =>
      have h2 := h t (List.mem_append_right _ (by simp))
      rw [rootOk_eq] at h2
      exact h2
  · rcases List.mem_append.1 ht with ht | ht
    · exact (h1 _).2 h.1 t ht
    · cases g with
      | none => simp at ht
      | some t' => simp at ht; subst ht; rw [rootOk_eq]; exact h.2
def riA (rts : List (Nat × Nat)) (xs : List Operand) (g : Option Nat) (a : AV) : Prop := AV.rootIn (((xs.flatMap opT) ++ g.toList) ++ ((xs.flatMap opT) ++ g.toList).map (rootS rts)) a
theorem ri_all {ds : List (Option Nat)} {o : Oper} {a : AV} (g : Option Nat) (xs : List Operand) (hg : guardS ds o = g.toList) (hx : o.op.operands.toList = xs) : AV.rootIn (fpV rts ds o) a = riA rts xs g a := by
  unfold riA fpV opnds
  rw [hg, hx]
@[congr] theorem riA_congr (rts : List (Nat × Nat)) (xs : List Operand) (g : Option Nat) {a a' : AV} (h : a = a') : riA rts xs g a = riA rts xs g a' := by rw [h]
@[simp] theorem rootS_nil (t : Nat) : rootS [] t = t := rfl
@[simp] theorem rootS_cons (a b : Nat) (l : List (Nat × Nat)) (t : Nat) : rootS ((a, b) :: l) t = if t = a then b else rootS l t := by
  unfold rootS
  rw [List.lookup_cons]
  by_cases h : t = a
  · subst h; simp
  · have : (t == a) = false := by simpa using h
    rw [this, if_neg h]
@[simp] theorem riA_ref (rts : List (Nat × Nat)) (xs : List Operand) (g : Option Nat) (r off : Nat) : riA rts xs g (.ref r off) = (r ∈ (((xs.flatMap opT) ++ g.toList) ++ ((xs.flatMap opT) ++ g.toList).map (rootS rts))) := rfl
@[simp] theorem riA_cnd_ref (rts : List (Nat × Nat)) (xs : List Operand) (g : Option Nat) (y : Bool) (r off : Nat) : riA rts xs g (.cnd y (.ref r off)) = (r ∈ (((xs.flatMap opT) ++ g.toList) ++ ((xs.flatMap opT) ++ g.toList).map (rootS rts))) := rfl
@[simp] theorem riA_imm (rts : List (Nat × Nat)) (xs : List Operand) (g : Option Nat) (v : Value) : riA rts xs g (.imm v) = True := rfl
@[simp] theorem riA_cnd_imm (rts : List (Nat × Nat)) (xs : List Operand) (g : Option Nat) (y : Bool) (v : Value) : riA rts xs g (.cnd y (.imm v)) = True := rfl
@[simp] theorem riA_sl (rts : List (Nat × Nat)) (xs : List Operand) (g : Option Nat) (es : List (List AV)) : riA rts xs g (.sl es) = True := rfl
@[simp] theorem riA_cnd_sl (rts : List (Nat × Nat)) (xs : List Operand) (g : Option Nat) (y : Bool) (es : List (List AV)) : riA rts xs g (.cnd y (.sl es)) = True := rfl
@[simp] theorem riA_ptr (rts : List (Nat × Nat)) (xs : List Operand) (g : Option Nat) (cs : List AV) : riA rts xs g (.ptr cs) = True := rfl
@[simp] theorem riA_cnd_ptr (rts : List (Nat × Nat)) (xs : List Operand) (g : Option Nat) (y : Bool) (cs : List AV) : riA rts xs g (.cnd y (.ptr cs)) = True := rfl
@[simp] theorem riA_dead (rts : List (Nat × Nat)) (xs : List Operand) (g : Option Nat)  : riA rts xs g (.dead) = True := rfl
@[simp] theorem riA_cnd_dead (rts : List (Nat × Nat)) (xs : List Operand) (g : Option Nat) (y : Bool)  : riA rts xs g (.cnd y (.dead)) = True := rfl
@[simp] theorem opT_tmp (t : Nat) : opT (.tmp t) = [t] := rfl
def sndL : List (Nat × Operand) → List Operand
  | [] => []
  | p :: l => p.2 :: sndL l
@[simp] theorem sndL_nil : sndL [] = [] := rfl
@[simp] theorem sndL_cons (i : Nat) (x : Operand) (l : List (Nat × Operand)) : sndL ((i, x) :: l) = x :: sndL l := rfl
theorem sndL_eq (l : List (Nat × Operand)) : l.map (·.2) = sndL l := by
  induction l with
  | nil => rfl
  | cons p l ih => simp [sndL, ih]
theorem opsB (T : TypeId) (l : List (Nat × Operand)) : (Op.build T (List.toArray l)).operands.toList = sndL l := by simp [Op.operands, sndL_eq]
theorem opsS (T : TypeId) (n : Nat) (l : List (Nat × Operand)) : (Op.buildSlice T n (List.toArray l)).operands.toList = sndL l := by simp [Op.operands, sndL_eq]
theorem opsC (f : FuncId) (xs : List Operand) (ats : Array TypeId) : (Op.call ⟨.value (.func f), List.toArray xs, ats⟩).operands.toList = .func f :: xs := by simp [Op.operands, Call.operands]
theorem opsL (x : Operand) (ats : Array TypeId) : (Op.call ⟨.builtin .len, #[x], ats⟩).operands.toList = [x] := by simp [Op.operands, Call.operands]
theorem opsI (S : TypeId) (x : Operand) (lo hi mx : Option Operand) : (Op.slice S x lo hi mx).operands.toList = x :: (lo.toList ++ hi.toList ++ mx.toList) := by simp [Op.operands]
def okL (st : St) (y : Bool) : List Operand → Prop
  | [] => True
  | x :: l => st.ok y x ∧ okL st y l
def shL (st : St) : List Operand → Prop
  | [] => True
  | x :: l => (st.get x).shared = true ∧ shL st l
def getL (st : St) : List Operand → List AV
  | [] => []
  | x :: l => st.get x :: getL st l
@[simp] theorem okL_nil (st : St) (y : Bool) : okL st y [] = True := rfl
@[simp] theorem okL_cons (st : St) (y : Bool) (x : Operand) (l : List Operand) : okL st y (x :: l) = (st.ok y x ∧ okL st y l) := rfl
@[simp] theorem shL_nil (st : St) : shL st [] = True := rfl
@[simp] theorem shL_cons (st : St) (x : Operand) (l : List Operand) : shL st (x :: l) = ((st.get x).shared = true ∧ shL st l) := rfl
@[simp] theorem getL_nil (st : St) : getL st [] = [] := rfl
@[simp] theorem getL_cons (st : St) (x : Operand) (l : List Operand) : getL st (x :: l) = st.get x :: getL st l := rfl
theorem okL_eq (st : St) (y : Bool) (l : List Operand) : (∀ x ∈ l, st.ok y x) = okL st y l := by
  induction l with
  | nil => simp [okL]
  | cons x l ih => simp only [okL, ← ih]; simp
theorem shL_eq (st : St) (l : List Operand) : (∀ x ∈ l, (st.get x).shared = true) = shL st l := by
  induction l with
  | nil => simp [shL]
  | cons x l ih => simp only [shL, ← ih]; simp
theorem getL_eq (st : St) (l : List Operand) : l.map st.get = getL st l := by
  induction l with
  | nil => rfl
  | cons x l ih => simp [getL, ih]
def prC (st : St) (n : Nat) : Nat → List (Nat × Operand) → Prop
  | _, [] => True
  | j, p :: l => p.1 = j ∧ st.ok true p.2 ∧ (st.get p.2).shared = true ∧ (st.get p.2).whole = true ∧ (st.get p.2).cells.length = n ∧ prC st n (j + 1) l
def prV (st : St) : List (Nat × Operand) → List (List AV)
  | [] => []
  | p :: l => (st.get p.2).cells :: prV st l
@[simp] theorem prC_nil (st : St) (n j : Nat) : prC st n j [] = True := rfl
@[simp] theorem prC_cons (st : St) (n j i : Nat) (x : Operand) (l : List (Nat × Operand)) : prC st n j ((i, x) :: l) = (i = j ∧ st.ok true x ∧ (st.get x).shared = true ∧ (st.get x).whole = true ∧ (st.get x).cells.length = n ∧ prC st n (j + 1) l) := rfl
@[simp] theorem prV_nil (st : St) : prV st [] = [] := rfl
@[simp] theorem prV_cons (st : St) (i : Nat) (x : Operand) (l : List (Nat × Operand)) : prV st ((i, x) :: l) = (st.get x).cells :: prV st l := rfl
theorem prV_eq (st : St) (l : List (Nat × Operand)) : (l.map fun p => (st.get p.2).cells) = prV st l := by
  induction l with
  | nil => rfl
  | cons x l ih => simp [prV, ih]
variable {ty : TypeId} {pos : String} {aft : Array Edge} {rest : List Oper} {Q : St → Prop} {st : St} {d : Nat} {ds : List (Option Nat)} {ll : List Oper}
@[simp] theorem wR_move (x : Operand) {tg : _} : wRt P N L ds (⟨some d, (Op.move x), ty, pos, aft, none⟩ :: rest) Q tg st = (d < N ∧ evc P st true (.move x) ∧ (ev P st (.move x)).rootNe d = true ∧ neO d x ∧ wRt P N L ds rest Q .mk (st.put (srcR P st L d (.move x)) d (ev P st (.move x)) (trT P st L d (.move x)))) := by
  simp only [wRt]
  cases x <;> (simp only [wR, givenL, frzL, resO, opV, stepV, readV, St.app]; rfl)
@[simp] theorem wD_move (x : Operand) {tg : _} : wDt P N L rts ds (⟨some d, (Op.move x), ty, pos, aft, none⟩ :: rest) Q tg st = (rkL rts st [x] ∧ rkG rts st none ∧ (d < N ∧ evc P st true (.move x) ∧ (ev P st (.move x)).rootNe d = true ∧ neO d x ∧ riA rts [x] none (ev P st (.move x)) ∧ wDt P N L rts ds rest Q .mk (st.put (srcR P st L d (.move x)) d (ev P st (.move x)) (trT P st L d (.move x))))) := by
  simp only [wDt]
  rw [wD_step, rk_all none [x] rfl (by first | rfl | exact opsB _ _ | exact opsS _ _ _ | exact opsC _ _ _ | exact opsL _ _ | exact opsI _ _ _ _ _ | simp [Op.operands, Call.operands]), and_assoc]
  have hri : ∀ a, AV.rootIn (fpV rts ds ((⟨some d, (Op.move x), ty, pos, aft, none⟩ : Oper))) a = riA rts [x] none a := fun a => ri_all none [x] rfl (by first | rfl | exact opsB _ _ | exact opsS _ _ _ | exact opsC _ _ _ | exact opsL _ _ | exact opsI _ _ _ _ _ | simp [Op.operands, Call.operands])
  refine congrArg _ (congrArg _ ?_)
  cases x <;> (simp only [← hri, opV, stepV, readV, St.app, Eff.rootIn]; rfl)
@[simp] theorem wR_moveG (x : Operand) (j : Nat) (want : Bool) {tg : _} : wRt P N L (dstA ll) (⟨some d, (Op.move x), ty, pos, aft, some (j, want)⟩ :: rest) Q tg st = (onS (yA (dstA ll) st j want) fun y => d < N ∧ evc P st y (.move x) ∧ (ev P st (.move x)).rootNe d = true ∧ (ev P st (.move x)).plain = true ∧ wRt P N L (dstA ll) rest Q .mk (st.put noSrc d (.cnd y (ev P st (.move x))) noTok)) := by
  simp only [wRt]
  simp only [wR, givenL, frzL, resO, opV, isGoCall, onS, St.app]
  cases yA (dstA ll) st j want <;> rfl
@[simp] theorem wD_moveG (x : Operand) (j : Nat) (want : Bool) {tg : _} : wDt P N L rts (dstA ll) (⟨some d, (Op.move x), ty, pos, aft, some (j, want)⟩ :: rest) Q tg st = (rkL rts st [x] ∧ rkG rts st (dstL ll .mk j) ∧ (onS (yA (dstA ll) st j want) fun y => d < N ∧ evc P st y (.move x) ∧ (ev P st (.move x)).rootNe d = true ∧ (ev P st (.move x)).plain = true ∧ riA rts [x] (dstL ll .mk j) (.cnd y (ev P st (.move x))) ∧ wDt P N L rts (dstA ll) rest Q .mk (st.put noSrc d (.cnd y (ev P st (.move x))) noTok))) := by
  simp only [wDt]
  rw [wD_step, rk_all (dstL ll .mk j) [x] rfl (by first | rfl | exact opsB _ _ | exact opsS _ _ _ | exact opsC _ _ _ | exact opsL _ _ | exact opsI _ _ _ _ _ | simp [Op.operands, Call.operands]), and_assoc]
  have hri : ∀ a, AV.rootIn (fpV rts (dstA ll) ((⟨some d, (Op.move x), ty, pos, aft, some (j, want)⟩ : Oper))) a = riA rts [x] (dstL ll .mk j) a := fun a => ri_all (dstL ll .mk j) [x] rfl (by first | rfl | exact opsB _ _ | exact opsS _ _ _ | exact opsC _ _ _ | exact opsL _ _ | exact opsI _ _ _ _ _ | simp [Op.operands, Call.operands])
  refine congrArg _ (congrArg _ ?_)
  simp only [opV, isGoCall, onS, St.app, Eff.rootIn]
  cases yA (dstA ll) st j want with
  | none => rfl
  | some y => simp only [← hri]; try rfl
@[simp] theorem wR_assign (x : Operand) {tg : _} : wRt P N L ds (⟨some d, (Op.assign x), ty, pos, aft, none⟩ :: rest) Q tg st = (d < N ∧ evc P st true (.assign x) ∧ (ev P st (.assign x)).rootNe d = true ∧ neO d x ∧ wRt P N L ds rest Q .mk (st.put (srcR P st L d (.assign x)) d (ev P st (.assign x)) (trT P st L d (.assign x)))) := by
  simp only [wRt]
  cases x <;> (simp only [wR, givenL, frzL, resO, opV, stepV, readV, St.app]; rfl)
@[simp] theorem wD_assign (x : Operand) {tg : _} : wDt P N L rts ds (⟨some d, (Op.assign x), ty, pos, aft, none⟩ :: rest) Q tg st = (rkL rts st [x] ∧ rkG rts st none ∧ (d < N ∧ evc P st true (.assign x) ∧ (ev P st (.assign x)).rootNe d = true ∧ neO d x ∧ riA rts [x] none (ev P st (.assign x)) ∧ wDt P N L rts ds rest Q .mk (st.put (srcR P st L d (.assign x)) d (ev P st (.assign x)) (trT P st L d (.assign x))))) := by
  simp only [wDt]
  rw [wD_step, rk_all none [x] rfl (by first | rfl | exact opsB _ _ | exact opsS _ _ _ | exact opsC _ _ _ | exact opsL _ _ | exact opsI _ _ _ _ _ | simp [Op.operands, Call.operands]), and_assoc]
  have hri : ∀ a, AV.rootIn (fpV rts ds ((⟨some d, (Op.assign x), ty, pos, aft, none⟩ : Oper))) a = riA rts [x] none a := fun a => ri_all none [x] rfl (by first | rfl | exact opsB _ _ | exact opsS _ _ _ | exact opsC _ _ _ | exact opsL _ _ | exact opsI _ _ _ _ _ | simp [Op.operands, Call.operands])
  refine congrArg _ (congrArg _ ?_)
  cases x <;> (simp only [← hri, opV, stepV, readV, St.app, Eff.rootIn]; rfl)
@[simp] theorem wR_pick (c x yy : Operand) {tg : _} : wRt P N L ds (⟨some d, (Op.pick c x yy), ty, pos, aft, none⟩ :: rest) Q tg st = (d < N ∧ evc P st true (.pick c x yy) ∧ (ev P st (.pick c x yy)).rootNe d = true ∧ wRt P N L ds rest Q .mk (st.put noSrc d (ev P st (.pick c x yy)) noTok)) := by
  simp only [wRt]
  simp only [wR, givenL, frzL, resO, opV, stepV, readV, St.app]
  first | done | (simp only [true_and]; done) | (simp only [true_and]; rfl) | rfl
@[simp] theorem wD_pick (c x yy : Operand) {tg : _} : wDt P N L rts ds (⟨some d, (Op.pick c x yy), ty, pos, aft, none⟩ :: rest) Q tg st = (rkL rts st [c, x, yy] ∧ rkG rts st none ∧ (d < N ∧ evc P st true (.pick c x yy) ∧ (ev P st (.pick c x yy)).rootNe d = true ∧ riA rts [c, x, yy] none (ev P st (.pick c x yy)) ∧ wDt P N L rts ds rest Q .mk (st.put noSrc d (ev P st (.pick c x yy)) noTok))) := by
  simp only [wDt]
  rw [wD_step, rk_all none [c, x, yy] rfl (by first | rfl | exact opsB _ _ | exact opsS _ _ _ | exact opsC _ _ _ | exact opsL _ _ | exact opsI _ _ _ _ _ | simp [Op.operands, Call.operands]), and_assoc]
  have hri : ∀ a, AV.rootIn (fpV rts ds ((⟨some d, (Op.pick c x yy), ty, pos, aft, none⟩ : Oper))) a = riA rts [c, x, yy] none a := fun a => ri_all none [c, x, yy] rfl (by first | rfl | exact opsB _ _ | exact opsS _ _ _ | exact opsC _ _ _ | exact opsL _ _ | exact opsI _ _ _ _ _ | simp [Op.operands, Call.operands])
  refine congrArg _ (congrArg _ ?_)
  simp only [← hri, opV, stepV, readV, St.app, Eff.rootIn]
  first | done | (simp only [true_and]; done) | (simp only [true_and]; rfl) | rfl
@[simp] theorem wR_pickG (c x yy : Operand) (j : Nat) (want : Bool) {tg : _} : wRt P N L (dstA ll) (⟨some d, (Op.pick c x yy), ty, pos, aft, some (j, want)⟩ :: rest) Q tg st = (onS (yA (dstA ll) st j want) fun y => d < N ∧ evc P st y (.pick c x yy) ∧ (ev P st (.pick c x yy)).rootNe d = true ∧ (ev P st (.pick c x yy)).plain = true ∧ wRt P N L (dstA ll) rest Q .mk (st.put noSrc d (.cnd y (ev P st (.pick c x yy))) noTok)) := by
  simp only [wRt]
  simp only [wR, givenL, frzL, resO, opV, isGoCall, onS, St.app]
  cases yA (dstA ll) st j want <;> rfl
@[simp] theorem wD_pickG (c x yy : Operand) (j : Nat) (want : Bool) {tg : _} : wDt P N L rts (dstA ll) (⟨some d, (Op.pick c x yy), ty, pos, aft, some (j, want)⟩ :: rest) Q tg st = (rkL rts st [c, x, yy] ∧ rkG rts st (dstL ll .mk j) ∧ (onS (yA (dstA ll) st j want) fun y => d < N ∧ evc P st y (.pick c x yy) ∧ (ev P st (.pick c x yy)).rootNe d = true ∧ (ev P st (.pick c x yy)).plain = true ∧ riA rts [c, x, yy] (dstL ll .mk j) (.cnd y (ev P st (.pick c x yy))) ∧ wDt P N L rts (dstA ll) rest Q .mk (st.put noSrc d (.cnd y (ev P st (.pick c x yy))) noTok))) := by
  simp only [wDt]
  rw [wD_step, rk_all (dstL ll .mk j) [c, x, yy] rfl (by first | rfl | exact opsB _ _ | exact opsS _ _ _ | exact opsC _ _ _ | exact opsL _ _ | exact opsI _ _ _ _ _ | simp [Op.operands, Call.operands]), and_assoc]
  have hri : ∀ a, AV.rootIn (fpV rts (dstA ll) ((⟨some d, (Op.pick c x yy), ty, pos, aft, some (j, want)⟩ : Oper))) a = riA rts [c, x, yy] (dstL ll .mk j) a := fun a => ri_all (dstL ll .mk j) [c, x, yy] rfl (by first | rfl | exact opsB _ _ | exact opsS _ _ _ | exact opsC _ _ _ | exact opsL _ _ | exact opsI _ _ _ _ _ | simp [Op.operands, Call.operands])
  refine congrArg _ (congrArg _ ?_)
  simp only [opV, isGoCall, onS, St.app, Eff.rootIn]
  cases yA (dstA ll) st j want with
  | none => rfl
  | some y => simp only [← hri]; try rfl
@[simp] theorem wR_nilCheck (x : Operand) {tg : _} : wRt P N L ds (⟨some d, (Op.nilCheck x), ty, pos, aft, none⟩ :: rest) Q tg st = (d < N ∧ evc P st true (.nilCheck x) ∧ (ev P st (.nilCheck x)).rootNe d = true ∧ wRt P N L ds rest Q .mk (st.put noSrc d (ev P st (.nilCheck x)) noTok)) := by
  simp only [wRt]
  simp only [wR, givenL, frzL, resO, opV, stepV, readV, St.app]
  first | done | (simp only [true_and]; done) | (simp only [true_and]; rfl) | rfl
@[simp] theorem wD_nilCheck (x : Operand) {tg : _} : wDt P N L rts ds (⟨some d, (Op.nilCheck x), ty, pos, aft, none⟩ :: rest) Q tg st = (rkL rts st [x] ∧ rkG rts st none ∧ (d < N ∧ evc P st true (.nilCheck x) ∧ (ev P st (.nilCheck x)).rootNe d = true ∧ riA rts [x] none (ev P st (.nilCheck x)) ∧ wDt P N L rts ds rest Q .mk (st.put noSrc d (ev P st (.nilCheck x)) noTok))) := by
  simp only [wDt]
  rw [wD_step, rk_all none [x] rfl (by first | rfl | exact opsB _ _ | exact opsS _ _ _ | exact opsC _ _ _ | exact opsL _ _ | exact opsI _ _ _ _ _ | simp [Op.operands, Call.operands]), and_assoc]
  have hri : ∀ a, AV.rootIn (fpV rts ds ((⟨some d, (Op.nilCheck x), ty, pos, aft, none⟩ : Oper))) a = riA rts [x] none a := fun a => ri_all none [x] rfl (by first | rfl | exact opsB _ _ | exact opsS _ _ _ | exact opsC _ _ _ | exact opsL _ _ | exact opsI _ _ _ _ _ | simp [Op.operands, Call.operands])
  refine congrArg _ (congrArg _ ?_)
  simp only [← hri, opV, stepV, readV, St.app, Eff.rootIn]
  first | done | (simp only [true_and]; done) | (simp only [true_and]; rfl) | rfl
@[simp] theorem wR_nilCheckG (x : Operand) (j : Nat) (want : Bool) {tg : _} : wRt P N L (dstA ll) (⟨some d, (Op.nilCheck x), ty, pos, aft, some (j, want)⟩ :: rest) Q tg st = (onS (yA (dstA ll) st j want) fun y => d < N ∧ evc P st y (.nilCheck x) ∧ (ev P st (.nilCheck x)).rootNe d = true ∧ (ev P st (.nilCheck x)).plain = true ∧ wRt P N L (dstA ll) rest Q .mk (st.put noSrc d (.cnd y (ev P st (.nilCheck x))) noTok)) := by
  simp only [wRt]
  simp only [wR, givenL, frzL, resO, opV, isGoCall, onS, St.app]
  cases yA (dstA ll) st j want <;> rfl
@[simp] theorem wR_load (T : TypeId) (x : Operand) {tg : _} : wRt P N L ds (⟨some d, (Op.load T x), ty, pos, aft, none⟩ :: rest) Q tg st = (d < N ∧ evc P st true (.load T x) ∧ (ev P st (.load T x)).rootNe d = true ∧ wRt P N L ds rest Q .mk (st.put (srcR P st L d (.load T x)) d (ev P st (.load T x)) (trT P st L d (.load T x)))) := by
  simp only [wRt]
  simp only [wR, givenL, frzL, resO, opV, stepV, readV, St.app]
  first | done | (simp only [true_and]; done) | (simp only [true_and]; rfl) | rfl
@[simp] theorem wD_load (T : TypeId) (x : Operand) {tg : _} : wDt P N L rts ds (⟨some d, (Op.load T x), ty, pos, aft, none⟩ :: rest) Q tg st = (rkL rts st [x] ∧ rkG rts st none ∧ (d < N ∧ evc P st true (.load T x) ∧ (ev P st (.load T x)).rootNe d = true ∧ riA rts [x] none (ev P st (.load T x)) ∧ wDt P N L rts ds rest Q .mk (st.put (srcR P st L d (.load T x)) d (ev P st (.load T x)) (trT P st L d (.load T x))))) := by
  simp only [wDt]
  rw [wD_step, rk_all none [x] rfl (by first | rfl | exact opsB _ _ | exact opsS _ _ _ | exact opsC _ _ _ | exact opsL _ _ | exact opsI _ _ _ _ _ | simp [Op.operands, Call.operands]), and_assoc]
  have hri : ∀ a, AV.rootIn (fpV rts ds ((⟨some d, (Op.load T x), ty, pos, aft, none⟩ : Oper))) a = riA rts [x] none a := fun a => ri_all none [x] rfl (by first | rfl | exact opsB _ _ | exact opsS _ _ _ | exact opsC _ _ _ | exact opsL _ _ | exact opsI _ _ _ _ _ | simp [Op.operands, Call.operands])
  refine congrArg _ (congrArg _ ?_)
  simp only [← hri, opV, stepV, readV, St.app, Eff.rootIn]
  first | done | (simp only [true_and]; done) | (simp only [true_and]; rfl) | rfl
@[simp] theorem wR_loadG (T : TypeId) (x : Operand) (j : Nat) (want : Bool) {tg : _} : wRt P N L (dstA ll) (⟨some d, (Op.load T x), ty, pos, aft, some (j, want)⟩ :: rest) Q tg st = (onS (yA (dstA ll) st j want) fun y => d < N ∧ evc P st y (.load T x) ∧ (ev P st (.load T x)).rootNe d = true ∧ (ev P st (.load T x)).plain = true ∧ wRt P N L (dstA ll) rest Q .mk (st.put noSrc d (.cnd y (ev P st (.load T x))) noTok)) := by
  simp only [wRt]
  simp only [wR, givenL, frzL, resO, opV, isGoCall, onS, St.app]
  cases yA (dstA ll) st j want <;> rfl
@[simp] theorem wD_loadG (T : TypeId) (x : Operand) (j : Nat) (want : Bool) {tg : _} : wDt P N L rts (dstA ll) (⟨some d, (Op.load T x), ty, pos, aft, some (j, want)⟩ :: rest) Q tg st = (rkL rts st [x] ∧ rkG rts st (dstL ll .mk j) ∧ (onS (yA (dstA ll) st j want) fun y => d < N ∧ evc P st y (.load T x) ∧ (ev P st (.load T x)).rootNe d = true ∧ (ev P st (.load T x)).plain = true ∧ riA rts [x] (dstL ll .mk j) (.cnd y (ev P st (.load T x))) ∧ wDt P N L rts (dstA ll) rest Q .mk (st.put noSrc d (.cnd y (ev P st (.load T x))) noTok))) := by
  simp only [wDt]
  rw [wD_step, rk_all (dstL ll .mk j) [x] rfl (by first | rfl | exact opsB _ _ | exact opsS _ _ _ | exact opsC _ _ _ | exact opsL _ _ | exact opsI _ _ _ _ _ | simp [Op.operands, Call.operands]), and_assoc]
  have hri : ∀ a, AV.rootIn (fpV rts (dstA ll) ((⟨some d, (Op.load T x), ty, pos, aft, some (j, want)⟩ : Oper))) a = riA rts [x] (dstL ll .mk j) a := fun a => ri_all (dstL ll .mk j) [x] rfl (by first | rfl | exact opsB _ _ | exact opsS _ _ _ | exact opsC _ _ _ | exact opsL _ _ | exact opsI _ _ _ _ _ | simp [Op.operands, Call.operands])
  refine congrArg _ (congrArg _ ?_)
  simp only [opV, isGoCall, onS, St.app, Eff.rootIn]
  cases yA (dstA ll) st j want with
  | none => rfl
  | some y => simp only [← hri]; try rfl
@[simp] theorem wR_fieldAddr (S : TypeId) (x : Operand) (f : Nat) {tg : _} : wRt P N L ds (⟨some d, (Op.fieldAddr S x f), ty, pos, aft, none⟩ :: rest) Q tg st = (d < N ∧ evc P st true (.fieldAddr S x f) ∧ (ev P st (.fieldAddr S x f)).rootNe d = true ∧ wRt P N L ds rest Q .mk (st.put noSrc d (ev P st (.fieldAddr S x f)) noTok)) := by
  simp only [wRt]
  simp only [wR, givenL, frzL, resO, opV, stepV, readV, St.app]
  first | done | (simp only [true_and]; done) | (simp only [true_and]; rfl) | rfl
@[simp] theorem wD_fieldAddr (S : TypeId) (x : Operand) (f : Nat) {tg : _} : wDt P N L rts ds (⟨some d, (Op.fieldAddr S x f), ty, pos, aft, none⟩ :: rest) Q tg st = (rkL rts st [x] ∧ rkG rts st none ∧ (d < N ∧ evc P st true (.fieldAddr S x f) ∧ (ev P st (.fieldAddr S x f)).rootNe d = true ∧ riA rts [x] none (ev P st (.fieldAddr S x f)) ∧ wDt P N L rts ds rest Q .mk (st.put noSrc d (ev P st (.fieldAddr S x f)) noTok))) := by
  simp only [wDt]
  rw [wD_step, rk_all none [x] rfl (by first | rfl | exact opsB _ _ | exact opsS _ _ _ | exact opsC _ _ _ | exact opsL _ _ | exact opsI _ _ _ _ _ | simp [Op.operands, Call.operands]), and_assoc]
  have hri : ∀ a, AV.rootIn (fpV rts ds ((⟨some d, (Op.fieldAddr S x f), ty, pos, aft, none⟩ : Oper))) a = riA rts [x] none a := fun a => ri_all none [x] rfl (by first | rfl | exact opsB _ _ | exact opsS _ _ _ | exact opsC _ _ _ | exact opsL _ _ | exact opsI _ _ _ _ _ | simp [Op.operands, Call.operands])
  refine congrArg _ (congrArg _ ?_)
  simp only [← hri, opV, stepV, readV, St.app, Eff.rootIn]
  first | done | (simp only [true_and]; done) | (simp only [true_and]; rfl) | rfl
@[simp] theorem wR_fieldAddrG (S : TypeId) (x : Operand) (f : Nat) (j : Nat) (want : Bool) {tg : _} : wRt P N L (dstA ll) (⟨some d, (Op.fieldAddr S x f), ty, pos, aft, some (j, want)⟩ :: rest) Q tg st = (onS (yA (dstA ll) st j want) fun y => d < N ∧ evc P st y (.fieldAddr S x f) ∧ (ev P st (.fieldAddr S x f)).rootNe d = true ∧ (ev P st (.fieldAddr S x f)).plain = true ∧ wRt P N L (dstA ll) rest Q .mk (st.put noSrc d (.cnd y (ev P st (.fieldAddr S x f))) noTok)) := by
  simp only [wRt]
  simp only [wR, givenL, frzL, resO, opV, isGoCall, onS, St.app]
  cases yA (dstA ll) st j want <;> rfl
@[simp] theorem wD_fieldAddrG (S : TypeId) (x : Operand) (f : Nat) (j : Nat) (want : Bool) {tg : _} : wDt P N L rts (dstA ll) (⟨some d, (Op.fieldAddr S x f), ty, pos, aft, some (j, want)⟩ :: rest) Q tg st = (rkL rts st [x] ∧ rkG rts st (dstL ll .mk j) ∧ (onS (yA (dstA ll) st j want) fun y => d < N ∧ evc P st y (.fieldAddr S x f) ∧ (ev P st (.fieldAddr S x f)).rootNe d = true ∧ (ev P st (.fieldAddr S x f)).plain = true ∧ riA rts [x] (dstL ll .mk j) (.cnd y (ev P st (.fieldAddr S x f))) ∧ wDt P N L rts (dstA ll) rest Q .mk (st.put noSrc d (.cnd y (ev P st (.fieldAddr S x f))) noTok))) := by
  simp only [wDt]
  rw [wD_step, rk_all (dstL ll .mk j) [x] rfl (by first | rfl | exact opsB _ _ | exact opsS _ _ _ | exact opsC _ _ _ | exact opsL _ _ | exact opsI _ _ _ _ _ | simp [Op.operands, Call.operands]), and_assoc]
  have hri : ∀ a, AV.rootIn (fpV rts (dstA ll) ((⟨some d, (Op.fieldAddr S x f), ty, pos, aft, some (j, want)⟩ : Oper))) a = riA rts [x] (dstL ll .mk j) a := fun a => ri_all (dstL ll .mk j) [x] rfl (by first | rfl | exact opsB _ _ | exact opsS _ _ _ | exact opsC _ _ _ | exact opsL _ _ | exact opsI _ _ _ _ _ | simp [Op.operands, Call.operands])
  refine congrArg _ (congrArg _ ?_)
  simp only [opV, isGoCall, onS, St.app, Eff.rootIn]
  cases yA (dstA ll) st j want with
  | none => rfl
  | some y => simp only [← hri]; try rfl
@[simp] theorem wR_indexAddr (S : TypeId) (x i : Operand) {tg : _} : wRt P N L ds (⟨some d, (Op.indexAddr S x i), ty, pos, aft, none⟩ :: rest) Q tg st = (d < N ∧ evc P st true (.indexAddr S x i) ∧ (ev P st (.indexAddr S x i)).rootNe d = true ∧ wRt P N L ds rest Q .mk (st.put noSrc d (ev P st (.indexAddr S x i)) noTok)) := by
  simp only [wRt]
  simp only [wR, givenL, frzL, resO, opV, stepV, readV, St.app]
  first | done | (simp only [true_and]; done) | (simp only [true_and]; rfl) | rfl
@[simp] theorem wD_indexAddr (S : TypeId) (x i : Operand) {tg : _} : wDt P N L rts ds (⟨some d, (Op.indexAddr S x i), ty, pos, aft, none⟩ :: rest) Q tg st = (rkL rts st [x, i] ∧ rkG rts st none ∧ (d < N ∧ evc P st true (.indexAddr S x i) ∧ (ev P st (.indexAddr S x i)).rootNe d = true ∧ riA rts [x, i] none (ev P st (.indexAddr S x i)) ∧ wDt P N L rts ds rest Q .mk (st.put noSrc d (ev P st (.indexAddr S x i)) noTok))) := by
  simp only [wDt]
  rw [wD_step, rk_all none [x, i] rfl (by first | rfl | exact opsB _ _ | exact opsS _ _ _ | exact opsC _ _ _ | exact opsL _ _ | exact opsI _ _ _ _ _ | simp [Op.operands, Call.operands]), and_assoc]
  have hri : ∀ a, AV.rootIn (fpV rts ds ((⟨some d, (Op.indexAddr S x i), ty, pos, aft, none⟩ : Oper))) a = riA rts [x, i] none a := fun a => ri_all none [x, i] rfl (by first | rfl | exact opsB _ _ | exact opsS _ _ _ | exact opsC _ _ _ | exact opsL _ _ | exact opsI _ _ _ _ _ | simp [Op.operands, Call.operands])
  refine congrArg _ (congrArg _ ?_)
  simp only [← hri, opV, stepV, readV, St.app, Eff.rootIn]
  first | done | (simp only [true_and]; done) | (simp only [true_and]; rfl) | rfl
@[simp] theorem wR_indexAddrG (S : TypeId) (x i : Operand) (j : Nat) (want : Bool) {tg : _} : wRt P N L (dstA ll) (⟨some d, (Op.indexAddr S x i), ty, pos, aft, some (j, want)⟩ :: rest) Q tg st = (onS (yA (dstA ll) st j want) fun y => d < N ∧ evc P st y (.indexAddr S x i) ∧ (ev P st (.indexAddr S x i)).rootNe d = true ∧ (ev P st (.indexAddr S x i)).plain = true ∧ wRt P N L (dstA ll) rest Q .mk (st.put noSrc d (.cnd y (ev P st (.indexAddr S x i))) noTok)) := by
  simp only [wRt]
  simp only [wR, givenL, frzL, resO, opV, isGoCall, onS, St.app]
  cases yA (dstA ll) st j want <;> rfl
@[simp] theorem wD_indexAddrG (S : TypeId) (x i : Operand) (j : Nat) (want : Bool) {tg : _} : wDt P N L rts (dstA ll) (⟨some d, (Op.indexAddr S x i), ty, pos, aft, some (j, want)⟩ :: rest) Q tg st = (rkL rts st [x, i] ∧ rkG rts st (dstL ll .mk j) ∧ (onS (yA (dstA ll) st j want) fun y => d < N ∧ evc P st y (.indexAddr S x i) ∧ (ev P st (.indexAddr S x i)).rootNe d = true ∧ (ev P st (.indexAddr S x i)).plain = true ∧ riA rts [x, i] (dstL ll .mk j) (.cnd y (ev P st (.indexAddr S x i))) ∧ wDt P N L rts (dstA ll) rest Q .mk (st.put noSrc d (.cnd y (ev P st (.indexAddr S x i))) noTok))) := by
  simp only [wDt]
  rw [wD_step, rk_all (dstL ll .mk j) [x, i] rfl (by first | rfl | exact opsB _ _ | exact opsS _ _ _ | exact opsC _ _ _ | exact opsL _ _ | exact opsI _ _ _ _ _ | simp [Op.operands, Call.operands]), and_assoc]
  have hri : ∀ a, AV.rootIn (fpV rts (dstA ll) ((⟨some d, (Op.indexAddr S x i), ty, pos, aft, some (j, want)⟩ : Oper))) a = riA rts [x, i] (dstL ll .mk j) a := fun a => ri_all (dstL ll .mk j) [x, i] rfl (by first | rfl | exact opsB _ _ | exact opsS _ _ _ | exact opsC _ _ _ | exact opsL _ _ | exact opsI _ _ _ _ _ | simp [Op.operands, Call.operands])
  refine congrArg _ (congrArg _ ?_)
  simp only [opV, isGoCall, onS, St.app, Eff.rootIn]
  cases yA (dstA ll) st j want with
  | none => rfl
  | some y => simp only [← hri]; try rfl
@[simp] theorem wR_slice (S : TypeId) (x : Operand) (lo hi mx : Option Operand) {tg : _} : wRt P N L ds (⟨some d, (Op.slice S x lo hi mx), ty, pos, aft, none⟩ :: rest) Q tg st = (d < N ∧ evc P st true (.slice S x lo hi mx) ∧ (ev P st (.slice S x lo hi mx)).rootNe d = true ∧ wRt P N L ds rest Q .mk (st.put noSrc d (ev P st (.slice S x lo hi mx)) noTok)) := by
  simp only [wRt]
  simp only [wR, givenL, frzL, resO, opV, stepV, readV, St.app]
  first | done | (simp only [true_and]; done) | (simp only [true_and]; rfl) | rfl
@[simp] theorem wR_binOp (b : BinOp) (S : TypeId) (x yy : Operand) (z : TypeId) {tg : _} : wRt P N L ds (⟨some d, (Op.binOp b S x yy z), ty, pos, aft, none⟩ :: rest) Q tg st = (d < N ∧ evc P st true (.binOp b S x yy z) ∧ (ev P st (.binOp b S x yy z)).rootNe d = true ∧ wRt P N L ds rest Q .mk (st.put noSrc d (ev P st (.binOp b S x yy z)) noTok)) := by
  simp only [wRt]
  simp only [wR, givenL, frzL, resO, opV, stepV, readV, St.app]
  first | done | (simp only [true_and]; done) | (simp only [true_and]; rfl) | rfl
@[simp] theorem wD_binOp (b : BinOp) (S : TypeId) (x yy : Operand) (z : TypeId) {tg : _} : wDt P N L rts ds (⟨some d, (Op.binOp b S x yy z), ty, pos, aft, none⟩ :: rest) Q tg st = (rkL rts st [x, yy] ∧ rkG rts st none ∧ (d < N ∧ evc P st true (.binOp b S x yy z) ∧ (ev P st (.binOp b S x yy z)).rootNe d = true ∧ riA rts [x, yy] none (ev P st (.binOp b S x yy z)) ∧ wDt P N L rts ds rest Q .mk (st.put noSrc d (ev P st (.binOp b S x yy z)) noTok))) := by
  simp only [wDt]
  rw [wD_step, rk_all none [x, yy] rfl (by first | rfl | exact opsB _ _ | exact opsS _ _ _ | exact opsC _ _ _ | exact opsL _ _ | exact opsI _ _ _ _ _ | simp [Op.operands, Call.operands]), and_assoc]
  have hri : ∀ a, AV.rootIn (fpV rts ds ((⟨some d, (Op.binOp b S x yy z), ty, pos, aft, none⟩ : Oper))) a = riA rts [x, yy] none a := fun a => ri_all none [x, yy] rfl (by first | rfl | exact opsB _ _ | exact opsS _ _ _ | exact opsC _ _ _ | exact opsL _ _ | exact opsI _ _ _ _ _ | simp [Op.operands, Call.operands])
  refine congrArg _ (congrArg _ ?_)
  simp only [← hri, opV, stepV, readV, St.app, Eff.rootIn]
  first | done | (simp only [true_and]; done) | (simp only [true_and]; rfl) | rfl
@[simp] theorem wR_binOpG (b : BinOp) (S : TypeId) (x yy : Operand) (z : TypeId) (j : Nat) (want : Bool) {tg : _} : wRt P N L (dstA ll) (⟨some d, (Op.binOp b S x yy z), ty, pos, aft, some (j, want)⟩ :: rest) Q tg st = (onS (yA (dstA ll) st j want) fun y => d < N ∧ evc P st y (.binOp b S x yy z) ∧ (ev P st (.binOp b S x yy z)).rootNe d = true ∧ (ev P st (.binOp b S x yy z)).plain = true ∧ wRt P N L (dstA ll) rest Q .mk (st.put noSrc d (.cnd y (ev P st (.binOp b S x yy z))) noTok)) := by
  simp only [wRt]
  simp only [wR, givenL, frzL, resO, opV, isGoCall, onS, St.app]
  cases yA (dstA ll) st j want <;> rfl
@[simp] theorem wD_binOpG (b : BinOp) (S : TypeId) (x yy : Operand) (z : TypeId) (j : Nat) (want : Bool) {tg : _} : wDt P N L rts (dstA ll) (⟨some d, (Op.binOp b S x yy z), ty, pos, aft, some (j, want)⟩ :: rest) Q tg st = (rkL rts st [x, yy] ∧ rkG rts st (dstL ll .mk j) ∧ (onS (yA (dstA ll) st j want) fun y => d < N ∧ evc P st y (.binOp b S x yy z) ∧ (ev P st (.binOp b S x yy z)).rootNe d = true ∧ (ev P st (.binOp b S x yy z)).plain = true ∧ riA rts [x, yy] (dstL ll .mk j) (.cnd y (ev P st (.binOp b S x yy z))) ∧ wDt P N L rts (dstA ll) rest Q .mk (st.put noSrc d (.cnd y (ev P st (.binOp b S x yy z))) noTok))) := by
  simp only [wDt]
  rw [wD_step, rk_all (dstL ll .mk j) [x, yy] rfl (by first | rfl | exact opsB _ _ | exact opsS _ _ _ | exact opsC _ _ _ | exact opsL _ _ | exact opsI _ _ _ _ _ | simp [Op.operands, Call.operands]), and_assoc]
  have hri : ∀ a, AV.rootIn (fpV rts (dstA ll) ((⟨some d, (Op.binOp b S x yy z), ty, pos, aft, some (j, want)⟩ : Oper))) a = riA rts [x, yy] (dstL ll .mk j) a := fun a => ri_all (dstL ll .mk j) [x, yy] rfl (by first | rfl | exact opsB _ _ | exact opsS _ _ _ | exact opsC _ _ _ | exact opsL _ _ | exact opsI _ _ _ _ _ | simp [Op.operands, Call.operands])
  refine congrArg _ (congrArg _ ?_)
  simp only [opV, isGoCall, onS, St.app, Eff.rootIn]
  cases yA (dstA ll) st j want with
  | none => rfl
  | some y => simp only [← hri]; try rfl
@[simp] theorem wR_unOp (u : UnOp) (S : TypeId) (x : Operand) {tg : _} : wRt P N L ds (⟨some d, (Op.unOp u S x), ty, pos, aft, none⟩ :: rest) Q tg st = (d < N ∧ evc P st true (.unOp u S x) ∧ (ev P st (.unOp u S x)).rootNe d = true ∧ wRt P N L ds rest Q .mk (st.put noSrc d (ev P st (.unOp u S x)) noTok)) := by
  simp only [wRt]
  simp only [wR, givenL, frzL, resO, opV, stepV, readV, St.app]
  first | done | (simp only [true_and]; done) | (simp only [true_and]; rfl) | rfl
@[simp] theorem wR_unOpG (u : UnOp) (S : TypeId) (x : Operand) (j : Nat) (want : Bool) {tg : _} : wRt P N L (dstA ll) (⟨some d, (Op.unOp u S x), ty, pos, aft, some (j, want)⟩ :: rest) Q tg st = (onS (yA (dstA ll) st j want) fun y => d < N ∧ evc P st y (.unOp u S x) ∧ (ev P st (.unOp u S x)).rootNe d = true ∧ (ev P st (.unOp u S x)).plain = true ∧ wRt P N L (dstA ll) rest Q .mk (st.put noSrc d (.cnd y (ev P st (.unOp u S x))) noTok)) := by
  simp only [wRt]
  simp only [wR, givenL, frzL, resO, opV, isGoCall, onS, St.app]
  cases yA (dstA ll) st j want <;> rfl
@[simp] theorem wR_makeInterface (S : TypeId) (x : Operand) {tg : _} : wRt P N L ds (⟨some d, (Op.makeInterface S x), ty, pos, aft, none⟩ :: rest) Q tg st = wGt P N L ds ⟨some d, (Op.makeInterface S x), ty, pos, aft, none⟩ rest Q .mk (frzL st [x]) := by
  first | rfl | (simp only [wRt, wR, wGt, givenL, resO, sndL_eq]; done) | (simp only [wRt, wR, wGt, givenL, resO, sndL_eq, List.toList_toArray, List.drop_succ_cons, List.drop_zero])
@[simp] theorem wR_extract (x : Operand) (j : Nat) {tg : _} : wRt P N L ds (⟨some d, (Op.extract x j), ty, pos, aft, none⟩ :: rest) Q tg st = (d < N ∧ evc P st true (.extract x j) ∧ (ev P st (.extract x j)).rootNe d = true ∧ wRt P N L ds rest Q .mk (st.put noSrc d (ev P st (.extract x j)) noTok)) := by
  simp only [wRt]
  simp only [wR, givenL, frzL, resO, opV, stepV, readV, St.app]
  first | done | (simp only [true_and]; done) | (simp only [true_and]; rfl) | rfl
@[simp] theorem wR_len (x : Operand) (ats : Array TypeId) {tg : _} : wRt P N L ds (⟨some d, (Op.call ⟨.builtin .len, #[x], ats⟩), ty, pos, aft, none⟩ :: rest) Q tg st = (d < N ∧ evc P st true (.call ⟨.builtin .len, #[x], ats⟩) ∧ (ev P st (.call ⟨.builtin .len, #[x], ats⟩)).rootNe d = true ∧ wRt P N L ds rest Q .mk (st.put noSrc d (ev P st (.call ⟨.builtin .len, #[x], ats⟩)) noTok)) := by
  simp only [wRt]
  simp only [wR, givenL, frzL, resO, opV, stepV, readV, St.app]
  first | done | (simp only [true_and]; done) | (simp only [true_and]; rfl) | rfl
@[simp] theorem wD_len (x : Operand) (ats : Array TypeId) {tg : _} : wDt P N L rts ds (⟨some d, (Op.call ⟨.builtin .len, #[x], ats⟩), ty, pos, aft, none⟩ :: rest) Q tg st = (rkL rts st [x] ∧ rkG rts st none ∧ (d < N ∧ evc P st true (.call ⟨.builtin .len, #[x], ats⟩) ∧ (ev P st (.call ⟨.builtin .len, #[x], ats⟩)).rootNe d = true ∧ riA rts [x] none (ev P st (.call ⟨.builtin .len, #[x], ats⟩)) ∧ wDt P N L rts ds rest Q .mk (st.put noSrc d (ev P st (.call ⟨.builtin .len, #[x], ats⟩)) noTok))) := by
  simp only [wDt]
  rw [wD_step, rk_all none [x] rfl (by first | rfl | exact opsB _ _ | exact opsS _ _ _ | exact opsC _ _ _ | exact opsL _ _ | exact opsI _ _ _ _ _ | simp [Op.operands, Call.operands]), and_assoc]
  have hri : ∀ a, AV.rootIn (fpV rts ds ((⟨some d, (Op.call ⟨.builtin .len, #[x], ats⟩), ty, pos, aft, none⟩ : Oper))) a = riA rts [x] none a := fun a => ri_all none [x] rfl (by first | rfl | exact opsB _ _ | exact opsS _ _ _ | exact opsC _ _ _ | exact opsL _ _ | exact opsI _ _ _ _ _ | simp [Op.operands, Call.operands])
  refine congrArg _ (congrArg _ ?_)
  simp only [← hri, opV, stepV, readV, St.app, Eff.rootIn]
  first | done | (simp only [true_and]; done) | (simp only [true_and]; rfl) | rfl
@[simp] theorem wR_lenG (x : Operand) (ats : Array TypeId) (j : Nat) (want : Bool) {tg : _} : wRt P N L (dstA ll) (⟨some d, (Op.call ⟨.builtin .len, #[x], ats⟩), ty, pos, aft, some (j, want)⟩ :: rest) Q tg st = (onS (yA (dstA ll) st j want) fun y => d < N ∧ evc P st y (.call ⟨.builtin .len, #[x], ats⟩) ∧ (ev P st (.call ⟨.builtin .len, #[x], ats⟩)).rootNe d = true ∧ (ev P st (.call ⟨.builtin .len, #[x], ats⟩)).plain = true ∧ wRt P N L (dstA ll) rest Q .mk (st.put noSrc d (.cnd y (ev P st (.call ⟨.builtin .len, #[x], ats⟩))) noTok)) := by
  simp only [wRt]
  simp only [wR, givenL, frzL, resO, opV, isGoCall, onS, St.app]
  cases yA (dstA ll) st j want <;> rfl
@[simp] theorem wR_build (T : TypeId) (l : List (Nat × Operand)) {tg : _} : wRt P N L ds (⟨some d, (Op.build T (List.toArray l)), ty, pos, aft, none⟩ :: rest) Q tg st = wGt P N L ds ⟨some d, (Op.build T (List.toArray l)), ty, pos, aft, none⟩ rest Q .mk (frzL st (sndL l)) := by
  first | rfl | (simp only [wRt, wR, wGt, givenL, resO, sndL_eq]; done) | (simp only [wRt, wR, wGt, givenL, resO, sndL_eq, List.toList_toArray, List.drop_succ_cons, List.drop_zero])
@[simp] theorem wG_build {ds : List (Option Nat)} {ty : TypeId} {pos : String} {aft : Array Edge} {rest : List Oper} {Q : St → Prop} {st : St} {d : Nat} (T : TypeId) (l : List (Nat × Operand)) {tg : Tag ((ds : List (Option Nat)), (⟨some d, (Op.build T (List.toArray l)), ty, pos, aft, none⟩ : Oper), (rest : List Oper), Q)} : wGt P N L ds ⟨some d, (Op.build T (List.toArray l)), ty, pos, aft, none⟩ rest Q tg st = (d < N ∧ evc P st true (.build T (List.toArray l)) ∧ (ev P st (.build T (List.toArray l))).rootNe d = true ∧ wRt P N L ds rest Q .mk (st.put noSrc d (ev P st (.build T (List.toArray l))) noTok)) := by
  simp only [wGt]
  simp only [opV, stepV, readV, St.app]
  first | done | (simp only [true_and]; done) | (simp only [true_and]; rfl) | rfl
@[simp] theorem wD_build (T : TypeId) (l : List (Nat × Operand)) {tg : _} : wDt P N L rts ds (⟨some d, (Op.build T (List.toArray l)), ty, pos, aft, none⟩ :: rest) Q tg st = (rkL rts st (sndL l) ∧ rkG rts st none ∧ (d < N ∧ evc P st true (.build T (List.toArray l)) ∧ (ev P st (.build T (List.toArray l))).rootNe d = true ∧ riA rts (sndL l) none (ev P st (.build T (List.toArray l))) ∧ wDt P N L rts ds rest Q .mk (st.put noSrc d (ev P st (.build T (List.toArray l))) noTok))) := by
  simp only [wDt]
  rw [wD_step, rk_all none (sndL l) rfl (by first | rfl | exact opsB _ _ | exact opsS _ _ _ | exact opsC _ _ _ | exact opsL _ _ | exact opsI _ _ _ _ _ | simp [Op.operands, Call.operands]), and_assoc]
  have hri : ∀ a, AV.rootIn (fpV rts ds ((⟨some d, (Op.build T (List.toArray l)), ty, pos, aft, none⟩ : Oper))) a = riA rts (sndL l) none a := fun a => ri_all none (sndL l) rfl (by first | rfl | exact opsB _ _ | exact opsS _ _ _ | exact opsC _ _ _ | exact opsL _ _ | exact opsI _ _ _ _ _ | simp [Op.operands, Call.operands])
  refine congrArg _ (congrArg _ ?_)
  simp only [← hri, opV, stepV, readV, St.app, Eff.rootIn]
  first | done | (simp only [true_and]; done) | (simp only [true_and]; rfl) | rfl
@[simp] theorem wR_buildG (T : TypeId) (l : List (Nat × Operand)) (j : Nat) (want : Bool) {tg : _} : wRt P N L (dstA ll) (⟨some d, (Op.build T (List.toArray l)), ty, pos, aft, some (j, want)⟩ :: rest) Q tg st = wGt P N L (dstA ll) ⟨some d, (Op.build T (List.toArray l)), ty, pos, aft, some (j, want)⟩ rest Q .mk (frzL st (sndL l)) := by
  first | rfl | (simp only [wRt, wR, wGt, givenL, resO, sndL_eq]; done) | (simp only [wRt, wR, wGt, givenL, resO, sndL_eq, List.toList_toArray, List.drop_succ_cons, List.drop_zero])
@[simp] theorem wG_buildG {ll : List Oper} {ty : TypeId} {pos : String} {aft : Array Edge} {rest : List Oper} {Q : St → Prop} {st : St} {d : Nat} (T : TypeId) (l : List (Nat × Operand)) (j : Nat) (want : Bool) {tg : Tag (((dstA ll) : List (Option Nat)), (⟨some d, (Op.build T (List.toArray l)), ty, pos, aft, some (j, want)⟩ : Oper), (rest : List Oper), Q)} : wGt P N L (dstA ll) ⟨some d, (Op.build T (List.toArray l)), ty, pos, aft, some (j, want)⟩ rest Q tg st = (onS (yA (dstA ll) st j want) fun y => d < N ∧ evc P st y (.build T (List.toArray l)) ∧ (ev P st (.build T (List.toArray l))).rootNe d = true ∧ (ev P st (.build T (List.toArray l))).plain = true ∧ wRt P N L (dstA ll) rest Q .mk (st.put noSrc d (.cnd y (ev P st (.build T (List.toArray l)))) noTok)) := by
  simp only [wGt]
  simp only [opV, isGoCall, onS, St.app]
  cases yA (dstA ll) st j want <;> rfl
@[simp] theorem wR_alloc (T : TypeId) {tg : _} : wRt P N L ds (⟨some d, (Op.alloc T), ty, pos, aft, none⟩ :: rest) Q tg st = (onZ (zbox P T) fun cs tk => d < N ∧ wRt P N L ds rest Q .mk (st.put noSrc d (.box T cs) (lk tk))) := by
  simp only [wRt]
  simp only [wR, givenL, frzL, resO, opV, stepV, St.app, zbox, onZ]
  cases zeroP P T with
  | none => rfl
  | some z =>
    by_cases hz : z.cells.all (·.oneCell') = true
    · simp [hz, nilTk_lk, AV.rootIn, lk]
    · simp [hz]
@[simp] theorem wD_alloc (T : TypeId) {tg : _} : wDt P N L rts ds (⟨some d, (Op.alloc T), ty, pos, aft, none⟩ :: rest) Q tg st = (rkL rts st [] ∧ rkG rts st none ∧ (onZ (zbox P T) fun cs tk => d < N ∧ wDt P N L rts ds rest Q .mk (st.put noSrc d (.box T cs) (lk tk)))) := by
  simp only [wDt]
  rw [wD_step, rk_all none [] rfl (by first | rfl | exact opsB _ _ | exact opsS _ _ _ | exact opsC _ _ _ | exact opsL _ _ | exact opsI _ _ _ _ _ | simp [Op.operands, Call.operands]), and_assoc]
  have hri : ∀ a, AV.rootIn (fpV rts ds ((⟨some d, (Op.alloc T), ty, pos, aft, none⟩ : Oper))) a = riA rts [] none a := fun a => ri_all none [] rfl (by first | rfl | exact opsB _ _ | exact opsS _ _ _ | exact opsC _ _ _ | exact opsL _ _ | exact opsI _ _ _ _ _ | simp [Op.operands, Call.operands])
  refine congrArg _ (congrArg _ ?_)
  simp only [opV, stepV, St.app, zbox, onZ, Eff.rootIn]
  cases zeroP P T with
  | none => rfl
  | some z =>
    by_cases hz : z.cells.all (·.oneCell') = true
    · simp [hz, nilTk_lk, AV.rootIn, lk]
    · simp [hz]
@[simp] theorem wR_box (T : TypeId) (x : Operand) {tg : _} : wRt P N L ds (⟨some d, (Op.box T x), ty, pos, aft, none⟩ :: rest) Q tg st = wGt P N L ds ⟨some d, (Op.box T x), ty, pos, aft, none⟩ rest Q .mk (frzL st [x]) := by
  first | rfl | (simp only [wRt, wR, wGt, givenL, resO, sndL_eq]; done) | (simp only [wRt, wR, wGt, givenL, resO, sndL_eq, List.toList_toArray, List.drop_succ_cons, List.drop_zero])
@[simp] theorem wG_box {ds : List (Option Nat)} {ty : TypeId} {pos : String} {aft : Array Edge} {rest : List Oper} {Q : St → Prop} {st : St} {d : Nat} (T : TypeId) (x : Operand) {tg : Tag ((ds : List (Option Nat)), (⟨some d, (Op.box T x), ty, pos, aft, none⟩ : Oper), (rest : List Oper), Q)} : wGt P N L ds ⟨some d, (Op.box T x), ty, pos, aft, none⟩ rest Q tg st = (d < N ∧ st.ok true x ∧ (st.get x).shared = true ∧ (st.get x).whole = true ∧ neO d x ∧ wRt P N L ds rest Q .mk (st.put (srcB x (st.get x) 0) d (.box T (st.get x).cells) (lk (none :: celL st x)))) := by
  simp only [wGt]
  simp only [opV, stepV, St.app, neO_eq]
  first | rfl | (simp only [AV.rootIn, true_and]; rfl)
@[simp] theorem wR_store (T : TypeId) (addr x : Operand) {tg : _} : wRt P N L ds (⟨none, (Op.store T addr x), ty, pos, aft, none⟩ :: rest) Q tg st = wGt P N L ds ⟨none, (Op.store T addr x), ty, pos, aft, none⟩ rest Q .mk (frzL st [x]) := by
  first | rfl | (simp only [wRt, wR, wGt, givenL, resO, sndL_eq]; done) | (simp only [wRt, wR, wGt, givenL, resO, sndL_eq, List.toList_toArray, List.drop_succ_cons, List.drop_zero])
@[simp] theorem wG_store {ds : List (Option Nat)} {ty : TypeId} {pos : String} {aft : Array Edge} {rest : List Oper} {Q : St → Prop} {st : St} (T : TypeId) (addr x : Operand) {tg : Tag ((ds : List (Option Nat)), (⟨none, (Op.store T addr x), ty, pos, aft, none⟩ : Oper), (rest : List Oper), Q)} : wGt P N L ds ⟨none, (Op.store T addr x), ty, pos, aft, none⟩ rest Q tg st = (st.ok true addr ∧ st.ok true x ∧ (st.get x).shared = true ∧ (st.get x).whole = true ∧ onRef (st.get addr) fun r off => onBox (st.val r) fun T' cs => (st.get x).cells.length = szP P T ∧ infP P T = true ∧ off + (st.get x).cells.length ≤ cs.length ∧ neO r x ∧ wRt P N L ds rest Q .mk (st.sto (srcB x (st.get x) off) r off T' cs (st.get x).cells (lk (celL st x)))) := by
  simp only [wGt]
  simp only [opV, stepV, onRef, onBox, St.app, neO_eq]
  cases st.get addr <;> first | rfl | (rename_i r off; cases st.val r <;> first | rfl | (simp only [true_and]; rfl))
@[simp] theorem wD_store (T : TypeId) (addr x : Operand) {tg : _} : wDt P N L rts ds (⟨none, (Op.store T addr x), ty, pos, aft, none⟩ :: rest) Q tg st = (rkL rts st [addr, x] ∧ rkG rts st none ∧ (st.ok true addr ∧ st.ok true x ∧ (st.get x).shared = true ∧ (st.get x).whole = true ∧ onRef (st.get addr) fun r off => onBox (st.val r) fun T' cs => (st.get x).cells.length = szP P T ∧ infP P T = true ∧ off + (st.get x).cells.length ≤ cs.length ∧ neO r x ∧ wDt P N L rts ds rest Q .mk (st.sto (srcB x (st.get x) off) r off T' cs (st.get x).cells (lk (celL st x))))) := by
  simp only [wDt]
  rw [wD_step, rk_all none [addr, x] rfl (by first | rfl | exact opsB _ _ | exact opsS _ _ _ | exact opsC _ _ _ | exact opsL _ _ | exact opsI _ _ _ _ _ | simp [Op.operands, Call.operands]), and_assoc]
  have hri : ∀ a, AV.rootIn (fpV rts ds ((⟨none, (Op.store T addr x), ty, pos, aft, none⟩ : Oper))) a = riA rts [addr, x] none a := fun a => ri_all none [addr, x] rfl (by first | rfl | exact opsB _ _ | exact opsS _ _ _ | exact opsC _ _ _ | exact opsL _ _ | exact opsI _ _ _ _ _ | simp [Op.operands, Call.operands])
  refine congrArg _ (congrArg _ ?_)
  simp only [opV, stepV, onRef, onBox, St.app, neO_eq, Eff.rootIn]
  cases st.get addr <;> first | rfl | (rename_i r off; cases st.val r <;> first | rfl | (simp only [true_and]; rfl))
@[simp] theorem wR_append (ts : Nat) (x : Operand) (T T' : TypeId) {tg : _} : wRt P N L ds (⟨some d, (Op.call ⟨.builtin .append, #[.tmp ts, x], #[T, T']⟩), ty, pos, aft, none⟩ :: rest) Q tg st = wGt P N L ds ⟨some d, (Op.call ⟨.builtin .append, #[.tmp ts, x], #[T, T']⟩), ty, pos, aft, none⟩ rest Q .mk (frzL st [x]) := by
  first | rfl | (simp only [wRt, wR, wGt, givenL, resO, sndL_eq]; done) | (simp only [wRt, wR, wGt, givenL, resO, sndL_eq, List.toList_toArray, List.drop_succ_cons, List.drop_zero])
@[simp] theorem wG_append {ds : List (Option Nat)} {ty : TypeId} {pos : String} {aft : Array Edge} {rest : List Oper} {Q : St → Prop} {st : St} {d : Nat} (ts : Nat) (x : Operand) (T T' : TypeId) {tg : Tag ((ds : List (Option Nat)), (⟨some d, (Op.call ⟨.builtin .append, #[.tmp ts, x], #[T, T']⟩), ty, pos, aft, none⟩ : Oper), (rest : List Oper), Q)} : wGt P N L ds ⟨some d, (Op.call ⟨.builtin .append, #[.tmp ts, x], #[T, T']⟩), ty, pos, aft, none⟩ rest Q tg st = (T = T' ∧ d < N ∧ st.ok true x ∧ onE (elemP P T) fun E => onSl (st.val ts) fun es => onSl (st.get x) fun es2 => tkEl E (st.tok ts 0) ∧ (∀ e ∈ es, e.length = szP P E) ∧ (∀ e ∈ es2, e.length = szP P E) ∧ (es.length + es2.length) * bytesP P E ≤ 140737488355328 ∧ es.length + es2.length ≤ 9223372036854775807 ∧ 0 < szP P E ∧ (zszP P E = true) ∧ wRt P N L ds rest Q .mk (st.put (srcA ts) d (.sl (es ++ es2)) (tkOne E))) := by
  simp only [wGt]
  simp only [opV, stepV, onE, onSl, St.app, tkEl_eq, zsz_eq]
  cases elemP P T <;> cases st.val ts <;> cases st.get x <;> first | rfl | (simp only [tkEl_eq, AV.rootIn, true_and, zsz_eq]; done) | (simp only [tkEl_eq, AV.rootIn, true_and, zsz_eq]; rfl)
@[simp] theorem wR_call (f : FuncId) (xs : List Operand) (ats : Array TypeId) {tg : _} : wRt P N L ds (⟨some d, (Op.call ⟨.value (.func f), List.toArray xs, ats⟩), ty, pos, aft, none⟩ :: rest) Q tg st = wGt P N L ds ⟨some d, (Op.call ⟨.value (.func f), List.toArray xs, ats⟩), ty, pos, aft, none⟩ rest Q .mk (frzL st xs) := by
  first | rfl | (simp only [wRt, wR, wGt, givenL, resO, sndL_eq]; done) | (simp only [wRt, wR, wGt, givenL, resO, sndL_eq, List.toList_toArray, List.drop_succ_cons, List.drop_zero])
@[simp] theorem wG_call {ds : List (Option Nat)} {ty : TypeId} {pos : String} {aft : Array Edge} {rest : List Oper} {Q : St → Prop} {st : St} {d : Nat} (f : FuncId) (xs : List Operand) (ats : Array TypeId) {tg : Tag ((ds : List (Option Nat)), (⟨some d, (Op.call ⟨.value (.func f), List.toArray xs, ats⟩), ty, pos, aft, none⟩ : Oper), (rest : List Oper), Q)} : wGt P N L ds ⟨some d, (Op.call ⟨.value (.func f), List.toArray xs, ats⟩), ty, pos, aft, none⟩ rest Q tg st = (d < N ∧ okL st true xs ∧ shL st xs ∧ callW P f (getL st xs) (fun a rt => wRt P N L ds rest Q .mk (st.put noSrc d a rt)) .mk) := by
  simp only [wGt]
  simp only [opV, stepV, St.app, ← okL_eq, ← shL_eq, ← getL_eq, callW]
  try rfl
@[simp] theorem wD_call (f : FuncId) (xs : List Operand) (ats : Array TypeId) {tg : _} : wDt P N L rts ds (⟨some d, (Op.call ⟨.value (.func f), List.toArray xs, ats⟩), ty, pos, aft, none⟩ :: rest) Q tg st = (rkL rts st (.func f :: xs) ∧ rkG rts st none ∧ (d < N ∧ okL st true xs ∧ shL st xs ∧ callW P f (getL st xs) (fun a rt => riA rts (.func f :: xs) none a ∧ wDt P N L rts ds rest Q .mk (st.put noSrc d a rt)) .mk)) := by
  simp only [wDt]
  rw [wD_step, rk_all none (.func f :: xs) rfl (by first | rfl | exact opsB _ _ | exact opsS _ _ _ | exact opsC _ _ _ | exact opsL _ _ | exact opsI _ _ _ _ _ | simp [Op.operands, Call.operands]), and_assoc]
  have hri : ∀ a, AV.rootIn (fpV rts ds ((⟨some d, (Op.call ⟨.value (.func f), List.toArray xs, ats⟩), ty, pos, aft, none⟩ : Oper))) a = riA rts (.func f :: xs) none a := fun a => ri_all none (.func f :: xs) rfl (by first | rfl | exact opsB _ _ | exact opsS _ _ _ | exact opsC _ _ _ | exact opsL _ _ | exact opsI _ _ _ _ _ | simp [Op.operands, Call.operands])
  refine congrArg _ (congrArg _ ?_)
  simp only [hri, opV, stepV, St.app, ← okL_eq, ← shL_eq, ← getL_eq, callW, Eff.rootIn]
  try rfl
@[simp] theorem wR_callG (f : FuncId) (xs : List Operand) (ats : Array TypeId) (j : Nat) (want : Bool) {tg : _} : wRt P N L (dstA ll) (⟨some d, (Op.call ⟨.value (.func f), List.toArray xs, ats⟩), ty, pos, aft, some (j, want)⟩ :: rest) Q tg st = wGt P N L (dstA ll) ⟨some d, (Op.call ⟨.value (.func f), List.toArray xs, ats⟩), ty, pos, aft, some (j, want)⟩ rest Q .mk (frzL st xs) := by
  first | rfl | (simp only [wRt, wR, wGt, givenL, resO, sndL_eq]; done) | (simp only [wRt, wR, wGt, givenL, resO, sndL_eq, List.toList_toArray, List.drop_succ_cons, List.drop_zero])
@[simp] theorem wG_callG {ll : List Oper} {ty : TypeId} {pos : String} {aft : Array Edge} {rest : List Oper} {Q : St → Prop} {st : St} {d : Nat} (f : FuncId) (xs : List Operand) (ats : Array TypeId) (j : Nat) (want : Bool) {tg : Tag (((dstA ll) : List (Option Nat)), (⟨some d, (Op.call ⟨.value (.func f), List.toArray xs, ats⟩), ty, pos, aft, some (j, want)⟩ : Oper), (rest : List Oper), Q)} : wGt P N L (dstA ll) ⟨some d, (Op.call ⟨.value (.func f), List.toArray xs, ats⟩), ty, pos, aft, some (j, want)⟩ rest Q tg st = (onS (yA (dstA ll) st j want) fun y => d < N ∧ okL st y xs ∧ shL st xs ∧ callG P y f (getL st xs) (fun a => wRt P N L (dstA ll) rest Q .mk (st.put noSrc d (.cnd y a) noTok)) .mk) := by
  simp only [wGt]
  simp only [opV, isGoCall, onS, St.app]
  cases yA (dstA ll) st j want with
  | none => rfl
  | some y =>
    simp only [← okL_eq, ← shL_eq, ← getL_eq, callG]
    try rfl
@[simp] theorem wD_callG (f : FuncId) (xs : List Operand) (ats : Array TypeId) (j : Nat) (want : Bool) {tg : _} : wDt P N L rts (dstA ll) (⟨some d, (Op.call ⟨.value (.func f), List.toArray xs, ats⟩), ty, pos, aft, some (j, want)⟩ :: rest) Q tg st = (rkL rts st (.func f :: xs) ∧ rkG rts st (dstL ll .mk j) ∧ (onS (yA (dstA ll) st j want) fun y => d < N ∧ okL st y xs ∧ shL st xs ∧ callG P y f (getL st xs) (fun a => riA rts (.func f :: xs) (dstL ll .mk j) (.cnd y a) ∧ wDt P N L rts (dstA ll) rest Q .mk (st.put noSrc d (.cnd y a) noTok)) .mk)) := by
  simp only [wDt]
  rw [wD_step, rk_all (dstL ll .mk j) (.func f :: xs) rfl (by first | rfl | exact opsB _ _ | exact opsS _ _ _ | exact opsC _ _ _ | exact opsL _ _ | exact opsI _ _ _ _ _ | simp [Op.operands, Call.operands]), and_assoc]
  have hri : ∀ a, AV.rootIn (fpV rts (dstA ll) ((⟨some d, (Op.call ⟨.value (.func f), List.toArray xs, ats⟩), ty, pos, aft, some (j, want)⟩ : Oper))) a = riA rts (.func f :: xs) (dstL ll .mk j) a := fun a => ri_all (dstL ll .mk j) (.func f :: xs) rfl (by first | rfl | exact opsB _ _ | exact opsS _ _ _ | exact opsC _ _ _ | exact opsL _ _ | exact opsI _ _ _ _ _ | simp [Op.operands, Call.operands])
  refine congrArg _ (congrArg _ ?_)
  simp only [opV, isGoCall, onS, St.app, Eff.rootIn]
  cases yA (dstA ll) st j want with
  | none => rfl
  | some y =>
    simp only [← okL_eq, ← shL_eq, ← getL_eq, callG, hri]
    try rfl
@[simp] theorem wR_row (T : TypeId) (n : Nat) (l : List (Nat × Operand)) {tg : _} : wRt P N L ds (⟨some d, (Op.buildSlice T n (List.toArray l)), ty, pos, aft, none⟩ :: rest) Q tg st = wGt P N L ds ⟨some d, (Op.buildSlice T n (List.toArray l)), ty, pos, aft, none⟩ rest Q .mk (frzL st (sndL l)) := by
  first | rfl | (simp only [wRt, wR, wGt, givenL, resO, sndL_eq]; done) | (simp only [wRt, wR, wGt, givenL, resO, sndL_eq, List.toList_toArray, List.drop_succ_cons, List.drop_zero])
@[simp] theorem wG_row {ds : List (Option Nat)} {ty : TypeId} {pos : String} {aft : Array Edge} {rest : List Oper} {Q : St → Prop} {st : St} {d : Nat} (T : TypeId) (n : Nat) (l : List (Nat × Operand)) {tg : Tag ((ds : List (Option Nat)), (⟨some d, (Op.buildSlice T n (List.toArray l)), ty, pos, aft, none⟩ : Oper), (rest : List Oper), Q)} : wGt P N L ds ⟨some d, (Op.buildSlice T n (List.toArray l)), ty, pos, aft, none⟩ rest Q tg st = (onE (elemP P T) fun E => d < N ∧ (∀ p ∈ l, st.ok true p.2 ∧ (st.get p.2).shared = true ∧ (st.get p.2).whole = true ∧ (st.get p.2).cells.length = szP P E) ∧ n * szP P E ≤ 16777216 ∧ n ≤ 16777216 ∧ (zokP P E = true) ∧ l.map (·.1) = List.range n ∧ wRt P N L ds rest Q .mk (st.put noSrc d (.sl (prV st l)) (tkOne E))) := by
  simp only [wGt]
  simp only [opV, stepV, onE, St.app, ← prV_eq, zok_eq]
  cases elemP P T <;> first | rfl | (simp only [AV.rootIn, true_and, zok_eq]; done) | (simp only [AV.rootIn, true_and, zok_eq]; rfl)
def dynT (P : Program) (N : Nat) (L : List Nat) (ds : List (Option Nat)) (o : Oper) (xs : List Operand) (ats : Array TypeId) (rest : List Oper) (Q : St → Prop) (_ : Tag (ds, o, xs, ats, rest, Q)) (st : St) : AV → Prop
  | .imm (.func (.func f) fs cs) => if fs.size == 0 && cs.size == 0 then wGt P N L ds { o with op := .call ⟨.value (.func f), List.toArray xs, ats⟩ } rest Q .mk st else wGt P N L ds o rest Q .mk st
  | _ => wGt P N L ds o rest Q .mk st
@[simp] theorem dynT_f (ds : List (Option Nat)) (dst : Option Nat) (op : Op) (ty : TypeId) (pos : String) (aft : Array Edge) (xs : List Operand) (ats : Array TypeId) (rest : List Oper) (Q : St → Prop) (tg) (st : St) (f : FuncId) : dynT P N L ds ⟨dst, op, ty, pos, aft, none⟩ xs ats rest Q tg st (.imm (.func (.func f) #[] #[])) = wGt P N L ds ⟨dst, .call ⟨.value (.func f), List.toArray xs, ats⟩, ty, pos, aft, none⟩ rest Q .mk st := rfl
@[simp] theorem wR_callT {d : Option Nat} (t : Nat) (xs : List Operand) (ats : Array TypeId) {tg : _} : wRt P N L ds (⟨d, (Op.call ⟨.value (.tmp t), List.toArray xs, ats⟩), ty, pos, aft, none⟩ :: rest) Q tg st = dynT P N L ds ⟨d, (Op.call ⟨.value (.tmp t), List.toArray xs, ats⟩), ty, pos, aft, none⟩ xs ats rest Q .mk st (st.val t) := by
  show opV P N L ds (resO st _) (fun e => wR P N L ds rest Q (st.app e)) st = _
  unfold resO
  simp only
  cases st.val t with
  | imm v =>
    cases v with
    | func fn fs cs =>
      cases fn with
      | func f =>
        simp only [dynT]
        split <;> rfl
      | _ => rfl
    | _ => rfl
  | _ => rfl

end
@[simp] theorem put_val (st : St) (src) (d : Nat) (a : AV) (tk) (u : Nat) : (st.put src d a tk).val u = if u = d then a else (st.val u).killR d := rfl
@[simp] theorem put_tok (st : St) (src : Nat → Nat → Bool) (d : Nat) (a : AV) (tk) (t k : Nat) : (st.put src d a tk).tok t k = if t = d then tk k else if src t k then none else st.tok t k := rfl
@[simp] theorem sto_val (st : St) (src) (r off : Nat) (T : TypeId) (cs as : List AV) (tk) (u : Nat) : (st.sto src r off T cs as tk).val u = if u = r then .box T (spliceL cs off as) else st.val u := rfl
@[simp] theorem sto_tok (st : St) (src : Nat → Nat → Bool) (r off : Nat) (T : TypeId) (cs as : List AV) (tk) (t k : Nat) : (st.sto src r off T cs as tk).tok t k = if t = r ∧ off + 1 ≤ k ∧ k ≤ off + as.length then tk (k - off - 1) else if src t k then none else st.tok t k := rfl
@[simp] theorem asc_val (k : Nat) (a : AV) (tk : List (Option (Option TypeId))) (l : List (Nat × AV × List (Option (Option TypeId)))) (u : Nat) : (St.asc ((k, a, tk) :: l)).val u = if u = k then a else (St.asc l).val u := rfl
@[simp] theorem asc_tok (k : Nat) (a : AV) (tk : List (Option (Option TypeId))) (l : List (Nat × AV × List (Option (Option TypeId)))) (t i : Nat) : (St.asc ((k, a, tk) :: l)).tok t i = if t = k then nth none tk i else (St.asc l).tok t i := by rw [← nth_eq]; rfl
@[simp] theorem asc_val_nil (u : Nat) : (St.asc []).val u = .dead := rfl
@[simp] theorem setB_val (st : St) (t : Nat) (v : Bool) (u : Nat) : (St.setB st t v).val u = if u = t then .imm (.bool v) else st.val u := rfl
@[simp] theorem setB_tok (st : St) (t : Nat) (v : Bool) (u k : Nat) : (St.setB st t v).tok u k = st.tok u k := rfl
@[simp] theorem args_val (l : List AV) (u : Nat) : (St.args l).val u = nth .dead l u := nth_eq _ _ _
@[simp] theorem args_tok (l : List AV) (t k : Nat) : (St.args l).tok t k = none := rfl
attribute [simp] spliceL
def resB (P : Program) (T : TypeId) : AV → AV
  | .box _ cs => ldA P T cs
  | _ => .dead
@[simp] theorem resB_box (P : Program) (T : TypeId) (T' : TypeId) (cs : List AV) : resB P T (.box T' cs) = ldA P T cs := rfl
def resBC (P : Program) (T : TypeId) : AV → Prop
  | .box _ cs => ldC P T cs ∧ (ldA P T cs).shared = true
  | _ => False
@[simp] theorem resBC_box (P : Program) (T : TypeId) (T' : TypeId) (cs : List AV) : resBC P T (.box T' cs) = (ldC P T cs ∧ (ldA P T cs).shared = true) := rfl
@[simp] theorem resA_tmp (P : Program) (st : St) (t : Nat) : resA P st (.tmp t) = st.get (.tmp t) := rfl
@[simp] theorem resA_cell (P : Program) (st : St) (t : Nat) (T : TypeId) : resA P st (.cell t T) = resB P T (st.val t) := by
  simp only [resA, resB]; cases st.val t <;> rfl
@[simp] theorem resC_tmp (P : Program) (st : St) (t : Nat) : resC P st (.tmp t) = (st.ok true (.tmp t) ∧ (st.get (.tmp t)).shared = true) := rfl
@[simp] theorem resC_cell (P : Program) (st : St) (t : Nat) (T : TypeId) : resC P st (.cell t T) = resBC P T (st.val t) := by
  simp only [resC, resBC]; cases st.val t <;> rfl
theorem wrap64 {n : Int} (h1 : -9223372036854775808 ≤ n) (h2 : n ≤ 9223372036854775807) : IntKind.i64.wrap n = n := by
  simp only [IntKind.wrap, IntKind.bits, IntKind.signed]
  simp
  omega
end Go.Proofs.YtldnkeackphilaaGreatDoor
