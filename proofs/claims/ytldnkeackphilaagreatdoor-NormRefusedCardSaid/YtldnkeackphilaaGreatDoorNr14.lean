/- norm: what cond makes, in plain Lean. -/
import Derived.Test.YtldnkeackphilaaGreatDoorNr11
import Derived.Test.YtldnkeackphilaaGreatDoorNr12
import Derived.Test.YtldnkeackphilaaGreatDoorNr13
set_option linter.unusedSimpArgs false
set_option linter.unusedVariables false
namespace Go.Proofs.YtldnkeackphilaaGreatDoor

def partAt (ps : List Part) (k : Int) : Part := ps.getD k.toNat ⟨0, noText, 0, []⟩
def nearF (c : Int → Int → Tr) (p : Part) (s : Int) : Tr :=
  let sel := c (p.kids.headD 0) 0
  if sel.kind = 2 then truthF false s else .lit { LitD.zero with kind := 7, key := p.text } s (some sel)
def opdOf (c : Int → Int → Tr) (ps : List Part) (p : Part) : OpdD :=
  if p.kind = 11 then ⟨0, false, p.text, 0, .zero, none⟩
  else if p.kind = 12 then ⟨0, true, noText, p.num, .zero, none⟩
  else if p.kind = 14 then ⟨2, false, noText, 0, ⟨2, p.num, p.text, 0⟩, none⟩
  else if p.kind = 15 then ⟨2, false, noText, 0, ⟨3, p.num, noText, 0⟩, none⟩
  else if p.kind = 18 then ⟨2, true, noText, 0, ⟨5, 0, p.text, 0⟩, none⟩
  else if p.kind = 20 then ⟨2, true, noText, 0, ⟨6, 0, p.text, 0⟩, some (c (p.kids.headD 0) 0)⟩
  else
    let q := partAt ps (p.kids.headD 0)
    if q.kind = 14 then ⟨2, true, noText, 0, ⟨4, q.num, q.text, 0⟩, none⟩
    else match intF q.text with
      | none => ⟨1, true, noText, 0, .zero, none⟩
      | some n => ⟨0, true, noText, n, .zero, none⟩
def opdF (c : Int → Int → Tr) (ps : List Part) (k : Int) : OpdD := opdOf c ps (partAt ps k)
def comparedX (a b : OpdD) (num : Int) (s0 : Int) : Tr :=
  let cmp := if num = 2 then 1 else num
  let s := if num = 2 then 1 - s0 else s0
  if a.step = 1 ∨ b.step = 1 then truthF false s
  else if a.step = 0 ∧ b.step = 0 then truthF (standsF a b cmp) s
  else if a.step = 0 then againstF b a (turnF cmp) s
  else if b.step = 0 then againstF a b cmp s
  else if a.term.side = 1 ∧ b.term.side ≠ 1 then .lit { LitD.zero with kind := 3, term := b.term, rel := turnF cmp, other := a.term } s b.sel
  else .lit { LitD.zero with kind := 3, term := a.term, rel := cmp, other := b.term } s a.sel
def comparedF (o : Int → OpdD) (p : Part) (s0 : Int) : Tr := comparedX (o (p.kids.getD 0 0)) (o (p.kids.getD 1 0)) p.num s0
def textsOf (es : List OpdD) : List ByteArray := (es.filter fun e => !e.num).map (·.text)
def numsOf (es : List OpdD) : List Int := (es.filter (·.num)).map (·.n)
theorem textsOf_snoc (es : List OpdD) (e : OpdD) : textsOf (es ++ [e]) = textsOf es ++ if e.num then [] else [e.text] := by
  simp only [textsOf, List.filter_append, List.map_append, List.filter_cons, List.filter_nil]
  cases e.num <;> simp
theorem numsOf_snoc (es : List OpdD) (e : OpdD) : numsOf (es ++ [e]) = numsOf es ++ if e.num then [e.n] else [] := by
  simp only [numsOf, List.filter_append, List.map_append, List.filter_cons, List.filter_nil]
  cases e.num <;> simp
def memberX (x : OpdD) (es : List OpdD) (s : Int) : Tr :=
  if es = [] ∨ x.step = 1 then truthF false s
  else if x.step = 0 then truthF (es.any fun e => standsF x e 1) s
  else .lit { LitD.zero with kind := 1, term := x.term, texts := compactS (sortedS (textsOf es)), nums := Lib.compact (sortedI (numsOf es)) } s x.sel
def memberF (c : Int → Int → Tr) (ps : List Part) (k j : Int) (s : Int) : Tr :=
  let p := partAt ps j
  if p.kind = 16 then .lit { LitD.zero with kind := 4, term := keyTermF (opdF c ps k), of_ := p.num } s none
  else if p.kind = 17 then .lit { LitD.zero with kind := 5, term := keyTermF (opdF c ps k) } s none
  else memberX (opdF c ps k) (p.kids.map (opdF c ps)) s
def condStep (c : Int → Int → Tr) (ps : List Part) (k : Int) (s : Int) : Tr :=
  let p := partAt ps k
  if p.kind = 1 ∨ p.kind = 2 then truthF (p.kind == 1) s
  else if p.kind = 3 then c (p.kids.headD 0) (1 - s)
  else if p.kind = 4 ∨ p.kind = 5 then joinF (if (p.kind == 4) = (s == 0) then 3 else 4) (p.kids.map fun k => c k s)
  else if p.kind = 8 then nearF c p s
  else if p.kind = 9 then nearF c p (1 - s)
  else if p.kind = 10 then .lit { LitD.zero with kind := 6, key := p.text } s none
  else if p.kind = 6 then comparedF (opdF c ps) p s
  else memberF c ps (p.kids.getD 0 0) (p.kids.getD 1 0) (if p.num = 1 then 1 - s else s)
def condF (ps : List Part) : Nat → Int → Int → Tr
  | 0, _, _ => .leaf 0
  | f + 1, k, s => condStep (condF ps f) ps k s
def sideK (k : Int) : Prop := k = 11 ∨ k = 12 ∨ k = 14 ∨ k = 15 ∨ k = 18 ∨ k = 20 ∨ k = 19
structure TT (ps : List Part) : Prop where
  wf : WF ps
  cnt : ∀ (i : Nat) p, ps[i]? = some p → p.kids.length ≤ 1000
  cmp : ∀ (i : Nat) p, ps[i]? = some p → p.kind = 6 → sideK (partAt ps (p.kids.getD 0 0)).kind ∧ sideK (partAt ps (p.kids.getD 1 0)).kind
  mem : ∀ (i : Nat) p, ps[i]? = some p → p.kind = 7 → sideK (partAt ps (p.kids.getD 0 0)).kind ∧ ((partAt ps (p.kids.getD 1 0)).kind = 13 ∨ (partAt ps (p.kids.getD 1 0)).kind = 16 ∨ (partAt ps (p.kids.getD 1 0)).kind = 17)
theorem partAt_nat {ps : List Part} {k : Nat} {p : Part} (h : ps[k]? = some p) : partAt ps k = p := by simp [partAt, List.getD_eq_getElem?_getD, h]
def pCs (p : Part) : List AV := [iA p.kind, sA p.text, iA p.num, intsA p.kids]
def psA (ps : List Part) : AV := .sl (ps.map pCs)
def mkA (ps : List Part) : AV := .ptr [psA ps]
end Go.Proofs.YtldnkeackphilaaGreatDoor
namespace Go.Proofs.YtldnkeackphilaaGreatDoor
open Go.RowKit

def cutB (c : UInt8) (s : ByteArray) : ByteArray × ByteArray × Bool := (⟨(Lib.cut s.data.toList [c]).1.toArray⟩, ⟨(Lib.cut s.data.toList [c]).2.1.toArray⟩, (Lib.cut s.data.toList [c]).2.2)
theorem data_len (s : ByteArray) : s.data.toList.length = s.size := by rw [Array.length_toList]; rfl
theorem cutB_len (c : UInt8) (s : ByteArray) : (cutB c s).1.size ≤ s.size ∧ (cutB c s).2.1.size ≤ s.size := by
  have h : (Lib.cut s.data.toList [c]).1.length ≤ s.data.toList.length ∧ (Lib.cut s.data.toList [c]).2.1.length ≤ s.data.toList.length := by
    unfold Lib.cut
    split
    · simp [List.length_take]; omega
    · simp
  rw [data_len] at h
  exact h
theorem cut_c (c : UInt8) (s : ByteArray) (w : World) (hs : s.size < 4294967281) (hG : Glob w) : Calls Tryz.prog 185 #[.string s, .string ⟨#[c]⟩] w fun e w' =>
    e = .returned (.tuple #[.string (cutB c s).1, .string (cutB c s).2.1, .bool (cutB c s).2.2]) ∧ ∃ n, w' = w.drewN n := by
  obtain ⟨m, hm⟩ := hG.ml
  exact Tryz.strings_Cut s ⟨#[c]⟩ m w hs hm
theorem Glob.drewN {w : World} (h : Glob w) (n : Nat) : Glob (w.drewN n) := h.below (below_drewN (Below.refl _ _) n)

def keyF (s : ByteArray) : Bool := if (cutB 47 s).2.2 then nameF (cutB 47 s).1 && shortF (cutB 47 s).2.1 else shortF s

set_option maxRecDepth 100000 in
set_option maxHeartbeats 1000000 in
theorem isKey_c (s : ByteArray) (w : World) (hs : s.size < 4294967281) (hG : Glob w) : Calls Tryz.prog 133 #[.string s] w fun e w' => e = .returned (.bool (keyF s)) ∧ Below w.heap.size w w' := by
  have hk : Hid (keyF s = if (cutB 47 s).2.2 then nameF (cutB 47 s).1 && shortF (cutB 47 s).2.1 else shortF s) := rfl
  have hl := cutB_len 47 s
  have HC : Hid (∀ W, Glob W → Calls Tryz.prog 185 #[.string s, .string ⟨#[47]⟩] W fun e w' => e = .returned (.tuple #[.string (cutB 47 s).1, .string (cutB 47 s).2.1, .bool (cutB 47 s).2.2]) ∧ ∃ n, w' = W.drewN n) := fun W h => cut_c 47 s W hs h
  generalize keyF s = kf at *
  generalize cutB 47 s = q at *
  obtain ⟨A, R, fnd⟩ := q
  simp only at hk hl HC
  have HG := Lib.hid hG
  clear hG
  go_enter Tryz.func133, Tryz.ntmps133
  cases fnd with
  | false =>
    have hk' : Hid (kf = shortF s) := hk.out
    clear hk
    go_wp2_with (first | (go_at_call 185; refine (HC.out _ HG.out).mono ?_; rintro e w' ⟨rfl, n, rfl⟩) | (go_at_call 187; refine (isShort_c _ _ (by omega)).mono ?_; rintro e w' ⟨rfl, rfl⟩))
    go_ret
    exact ⟨ret_b hk'.out.symm, below_drewN (Below.refl _ _) _⟩
  | true =>
    have hk' : Hid (kf = (nameF A && shortF R)) := hk.out
    clear hk
    by_cases hn : nameF A = true
    · have hk2 : Hid (kf = shortF R) := by unfold Hid; rw [hk'.out, hn]; rfl
      clear hk'
      go_wp2_with (first | (go_at_call 185; refine (HC.out _ HG.out).mono ?_; rintro e w' ⟨rfl, n, rfl⟩) | (go_at_call 186; refine (isName_c _ _ (by omega) (HG.out.drewN _)).mono ?_; rintro e w' ⟨rfl, hB⟩) | (go_at_call 187; refine (isShort_c _ _ (by omega)).mono ?_; rintro e w' ⟨rfl, rfl⟩))
      go_ret
      exact ⟨ret_b hk2.out.symm, (below_drewN (Below.refl _ _) _).trans hB⟩
    · have hn' : nameF A = false := by simpa using hn
      have hk2 : Hid (kf = false) := by unfold Hid; rw [hk'.out, hn']; rfl
      clear hk'
      go_wp2_with (first | (go_at_call 185; refine (HC.out _ HG.out).mono ?_; rintro e w' ⟨rfl, n, rfl⟩) | (go_at_call 186; refine (isName_c _ _ (by omega) (HG.out.drewN _)).mono ?_; rintro e w' ⟨rfl, hB⟩) | (go_at_call 187; refine (isShort_c _ _ (by omega)).mono ?_; rintro e w' ⟨rfl, rfl⟩))
      go_ret
      exact ⟨ret_b hk2.out.symm, (below_drewN (Below.refl _ _) _).trans hB⟩

def effectF (s : ByteArray) : Bool := decide (s.toList = [78, 111, 83, 99, 104, 101, 100, 117, 108, 101] ∨ s.toList = [80, 114, 101, 102, 101, 114, 78, 111, 83, 99, 104, 101, 100, 117, 108, 101] ∨ s.toList = [78, 111, 69, 120, 101, 99, 117, 116, 101])
theorem isEffect_c (s : ByteArray) (w : World) : Calls Tryz.prog 134 #[.string s] w fun e w' => e = .returned (.bool (effectF s)) ∧ w' = w := by
  go_enter Tryz.func134, Tryz.ntmps134
  go_wp2
  all_goals (go_ret; exact ⟨ret_b (by rw [Bool.eq_iff_iff]; simp_all [effectF]), rfl⟩)
def allIx (f : Nat → Int → Bool) (s : ByteArray) (i : Nat) : Bool := if h : i < s.size then f i (bt s i) && allIx f s (i + 1) else true
termination_by s.size - i
theorem allIx_end (f : Nat → Int → Bool) (s : ByteArray) (i : Nat) (h : ¬ i < s.size) : allIx f s i = true := by unfold allIx; rw [dif_neg h]
theorem allIx_step (f : Nat → Int → Bool) (s : ByteArray) (i : Nat) (h : i < s.size) : allIx f s i = (f i (bt s i) && allIx f s (i + 1)) := by conv => lhs; unfold allIx; rw [dif_pos h]
def qOk (n i : Nat) (x : Int) : Bool := decide (97 ≤ x ∧ x ≤ 122) || decide (48 ≤ x ∧ x ≤ 57) && decide (0 < i) || decide (x = 45 ∨ x = 46 ∨ x = 47) && decide (0 < i ∧ i + 1 < n)
def qnameF (s : ByteArray) : Bool := decide (1 ≤ s.size ∧ s.size ≤ 32) && allIx (qOk s.size) s 0

set_option maxRecDepth 100000 in
set_option maxHeartbeats 4000000 in
theorem qname_c (s : ByteArray) (w : World) : Calls Tryz.prog 135 #[.string s] w fun e w' => e = .returned (.bool (qnameF s)) ∧ w' = w := by
  have Hb : Hid (qnameF s = (decide (1 ≤ s.size ∧ s.size ≤ 32) && allIx (qOk s.size) s 0)) := rfl
  have Ha : Hid (∀ k, k < s.size → allIx (qOk s.size) s k = (qOk s.size k (bt s k) && allIx (qOk s.size) s (k + 1))) := allIx_step _ s
  generalize qnameF s = sh at *
  by_cases h1 : 1 ≤ s.size
  · by_cases h32 : s.size ≤ 32
    · have Hb' : Hid (sh = allIx (qOk s.size) s 0) := by unfold Hid; rw [Hb.out]; simp [h1, h32]
      clear Hb
      go_enter Tryz.func135, Tryz.ntmps135
      go_wp2
      go_loop [3] (fun i => ∃ (k : Nat), k ≤ s.size ∧ i = .int .i64 k ∧ Hid (sh = allIx (qOk s.size) s k)) (fun i => s.size - (intOf i).toNat)
      case atStart => exact ⟨0, Nat.zero_le _, rfl, Hb'⟩
      case round =>
        obtain ⟨k, hk, rfl, hd⟩ := hrel
        by_cases hlt : k < s.size
        · have bk := bt_at s k
          have br := bt_range s k
          have Hst : Hid (sh = (qOk s.size k (bt s k) && allIx (qOk s.size) s (k + 1))) := by rw [hd.out, Ha.out k hlt]; rfl
          generalize bt s k = x at *
          have Hq : Hid (qOk s.size k x = (decide (97 ≤ x ∧ x ≤ 122) || decide (48 ≤ x ∧ x ≤ 57) && decide (0 < k) || decide (x = 45 ∨ x = 46 ∨ x = 47) && decide (0 < k ∧ k + 1 < s.size))) := rfl
          clear hd
          by_cases hx : qOk s.size k x = true
          · have Hst' : Hid (sh = allIx (qOk s.size) s (k + 1)) := by unfold Hid; rw [Hst.out, hx]; rfl
            have hq := Hq.out
            rw [hx] at hq
            have hs1 : ((s.size : Int) - 1) = ((s.size - 1 : Nat) : Int) := by omega
            simp only [Bool.or_eq_true, Bool.and_eq_true, decide_eq_true_eq, true_eq_decide_iff, eq_comm (a := true)] at hq
            clear Hst Hq hx
            rcases hq with (hq | hq) | hq
            · go_wp2
              all_goals
                go_round
                case rel => exact ⟨k + 1, by omega, by go_num, Hst'⟩
                case measure => simp [intOf]; try omega
            · go_wp2
              all_goals
                go_round
                case rel => exact ⟨k + 1, by omega, by go_num, Hst'⟩
                case measure => simp [intOf]; try omega
            · rcases hq with ⟨hq | hq | hq, h3⟩
              all_goals
                subst hq
                go_wp2
                all_goals
                  go_round
                  case rel => exact ⟨k + 1, by omega, by go_num, Hst'⟩
                  case measure => simp [intOf]; try omega
          · have hx' : qOk s.size k x = false := by simpa using hx
            have Hst' : Hid (sh = false) := by unfold Hid; rw [Hst.out, hx']; rfl
            have hq := Hq.out
            rw [hx'] at hq
            have Hq2 : Hid (¬ (97 ≤ x ∧ x ≤ 122) ∧ ¬ ((48 ≤ x ∧ x ≤ 57) ∧ 0 < k) ∧ ¬ ((x = 45 ∨ x = 46 ∨ x = 47) ∧ 0 < k ∧ k + 1 < s.size)) := by
              unfold Hid
              simp at hq
              grind
            clear Hst Hq hx hq hx'
            go_wp2
            all_goals first
              | (go_ret; exact ⟨ret_b Hst'.out.symm, rfl⟩)
              | (exfalso; have := Hq2.out; omega)
        · have Hst' : Hid (sh = true) := by rw [hd.out]; exact allIx_end _ _ _ hlt
          clear hd
          go_wp2
          go_ret
          exact ⟨ret_b Hst'.out.symm, rfl⟩
    · have Hb' : Hid (sh = false) := by unfold Hid; rw [Hb.out]; simp [h32]
      clear Hb
      go_enter Tryz.func135, Tryz.ntmps135
      go_wp2
      go_ret
      exact ⟨ret_b Hb'.out.symm, rfl⟩
  · have Hb' : Hid (sh = false) := by unfold Hid; rw [Hb.out]; simp [h1]
    clear Hb
    go_enter Tryz.func135, Tryz.ntmps135
    go_wp2
    go_ret
    exact ⟨ret_b Hb'.out.symm, rfl⟩
end Go.Proofs.YtldnkeackphilaaGreatDoor
namespace Go.Proofs.YtldnkeackphilaaGreatDoor
open Go.RowKit

end Go.Proofs.YtldnkeackphilaaGreatDoor
namespace Go.Proofs.YtldnkeackphilaaGreatDoor
open Go.RowKit

end Go.Proofs.YtldnkeackphilaaGreatDoor
namespace Go.Proofs.YtldnkeackphilaaGreatDoor
open Go.RowKit

def sidesG (kind num first second : Int) (mv : Bool) (i a b : Int) : Option (Int × Int) :=
  if first ≠ 2 ∧ first ≠ 3 then some (141, a)
  else if ¬ (if kind = 7 then second = 6 ∨ (second = 4 ∧ first = 2) ∨ (second = 5 ∧ first = 3) else second = first) then some (141, b)
  else if kind = 6 ∧ first = 2 ∧ 2 < num then some (141, i)
  else if mv then some (144, i) else none
def sidesF (ts : List (Int × Int)) (i : Int) (p : Part) : Option (Int × Int) :=
  sidesG p.kind p.num (sortAt ts (p.kids.getD 0 0)) (sortAt ts (p.kids.getD 1 0)) (movesF ts (p.kids.getD 0 0) && movesF ts (p.kids.getD 1 0)) i (p.kids.getD 0 0) (p.kids.getD 1 0)

set_option maxRecDepth 100000 in
set_option maxHeartbeats 2000000 in
theorem sides_c (lb : Nat) (pv sv tv : Value) (ps : List Part) (sc : List Int) (ts : List (Int × Int)) (i : Nat) (p : Part) (w : World) (h : Look w lb pv sv tv ps sc ts) (hp : ps[i]? = some p)
    (hk : ∀ k ∈ p.kids, 0 ≤ k ∧ k < ts.length) (h2 : p.kids.length = 2) :
    Calls Tryz.prog 85 #[.pointer (some ⟨lb, 0, none⟩), .int .i64 i] w fun e w' => ∃ v, e = .returned v ∧ FltV w (sidesF ts i p) v w' := by
  obtain ⟨hc0, hc1, hc2, hlb, hP, -, hT⟩ := id h
  have Hlook := Lib.hid h
  obtain ⟨Ap, cp, rfl, hpl, hpx⟩ := id hP
  obtain ⟨bp, op, kv, rfl, hbp, hr, h0, h1, h3, h4⟩ := hP.get hp
  have hil : i < ps.length := (List.getElem?_eq_some_iff.1 hp).1
  obtain ⟨-, -, -, Ak, ck, rfl, -, hkx⟩ := id hr
  obtain ⟨a, b, hab⟩ : ∃ a b, p.kids = [a, b] := by
    rcases hkk : p.kids with _ | ⟨a, _ | ⟨b, _ | ⟨d, r⟩⟩⟩ <;> rw [hkk] at h2 <;> simp at h2
    exact ⟨a, b, rfl⟩
  have ha := hk a (by rw [hab]; simp)
  have hb := hk b (by rw [hab]; simp)
  obtain ⟨-, bk, ok, rfl, hbk, hca⟩ := hkx 0 a (by rw [hab]; rfl)
  obtain ⟨-, bk', ok', he, -, hcb⟩ := hkx 1 b (by rw [hab]; rfl)
  obtain ⟨rfl, rfl⟩ : bk' = bk ∧ ok' = ok := by simpa using he.symm
  obtain ⟨an, rfl⟩ := Int.eq_ofNat_of_zero_le ha.1
  obtain ⟨bn, rfl⟩ := Int.eq_ofNat_of_zero_le hb.1
  have hal : an < ts.length := by omega
  have hbl : bn < ts.length := by omega
  obtain ⟨At, ct, rfl, htl, htx⟩ := id hT
  obtain ⟨⟨s1, d1⟩, ht1⟩ : ∃ t, ts[an]? = some t := ⟨_, List.getElem?_eq_getElem hal⟩
  obtain ⟨⟨s2, d2⟩, ht2⟩ : ∃ t, ts[bn]? = some t := ⟨_, List.getElem?_eq_getElem hbl⟩
  obtain ⟨bt_, ot, rfl, hbt, hs1, hd1⟩ := htx an _ ht1
  obtain ⟨bt', ot', he2, -, hs2, hd2⟩ := htx bn _ ht2
  obtain ⟨rfl, rfl⟩ : bt' = bt_ ∧ ot' = ot := by simpa using he2.symm
  have HS : Hid (sidesF ts i p = sidesG p.kind p.num s1 s2 (movesF ts an && movesF ts bn) i an bn) := by
    unfold Hid
    rw [sidesF, hab]
    simp only [List.getD_cons_zero, List.getD_cons_succ]
    rw [sortAt_nat ht1, sortAt_nat ht2]
  generalize sidesF ts i p = res at *
  generalize hkn : p.kids.length = kn at *
  subst h2
  obtain ⟨kind, text, num, kids⟩ := p
  simp only at *
  clear htx hpx hkx h hP hr hT hp ht1 ht2 hab hk he he2 hkn hd1 hd2
  rw [Nat.add_zero] at hca
  go_enter Tryz.func85, Tryz.ntmps85
  go_wp2
  go_quiet (fail)
  go_wp2
  go_quiet (fail)
  by_cases hf : s1 = 2 ∨ s1 = 3
  · generalize hfit : (if kind = 7 then decide (s2 = 6) || (decide (s2 = 4) && decide (s1 = 2)) || (decide (s2 = 5) && decide (s1 = 3)) else decide (s2 = s1)) = fit
    have HS2 : Hid (res = if fit = false then some (141, (bn : Int)) else if kind = 6 ∧ s1 = 2 ∧ 2 < num then some (141, (i : Int)) else if movesF ts an && movesF ts bn then some (144, (i : Int)) else none) := by
      rw [HS.out, ← hfit, sidesG, if_neg (by omega)]
      unfold Hid
      by_cases h7 : kind = 7 <;> simp [h7] <;> grind
    have Hfit := Lib.hid hfit
    clear HS hfit
    rcases hf with rfl | rfl
    · skip
      go_upto_if 55 with fail
      go_cut [10] (fun s10 wx => s10 = .bool fit ∧ ∃ q, wx = ((w.alloc (.cells #[.int .i64 kind, .string text, .int .i64 num, .slice (some ⟨bk', ok', none⟩) 2 ck] 66)).drewN q))
      case first =>
        by_cases h7 : kind = 7
        · subst h7
          by_cases h6 : s2 = 6
          · subst h6
            go_wp2
            go_meet
            exact ⟨by rw [← Hfit.out]; rfl, _, rfl⟩
          · by_cases h4 : s2 = 4
            · subst h4
              go_wp2
              go_meet
              exact ⟨by rw [← Hfit.out]; rfl, _, rfl⟩
            · by_cases h5 : s2 = 5
              · subst h5
                go_wp2
                go_meet
                exact ⟨by rw [← Hfit.out]; rfl, _, rfl⟩
              · have Hf3 : Hid (fit = false) := by unfold Hid; rw [← Hfit.out]; simp [h6, h4, h5]
                go_wp2
                go_meet
                exact ⟨by rw [Hf3.out]; simp [h6], _, rfl⟩
        · have h7' : (kind == 7) = false := by simpa using h7
          have Hf3 : Hid (fit = decide (s2 = 2)) := by rw [← Hfit.out, if_neg h7]; rfl
          clear h7
          go_wp2
          go_meet
          exact ⟨by rw [Hf3.out]; congr 1, _, rfl⟩
      case rest =>
        obtain ⟨rfl, q, rfl⟩ := hcut
        clear Hfit
        have HB : Below w.heap.size w ((w.alloc (.cells #[.int .i64 kind, .string text, .int .i64 num, .slice (some ⟨bk', ok', none⟩) 2 ck] 66)).drewN q) := below_drewN (below_box _ _) _
        cases fit with
        | false =>
          have HS3 : Hid (res = some (141, (bn : Int))) := HS2.out
          clear HS2
          go_wp2_with (go_at_call 45; refine (sfault_c _ _ _).mono ?_; rintro e w' ⟨rfl, rfl⟩)
          go_ret
          rw [HS3.out]
          exact ⟨_, rfl, fltV_new (by repeat (first | exact Below.refl _ _ | refine below_drewN ?_ _ | refine below_al ?_ _)) _ _ (by simp)⟩
        | true =>
          have HS3 : Hid (res = if kind = 6 ∧ (2:Int) = 2 ∧ 2 < num then some (141, (i : Int)) else if movesF ts an && movesF ts bn then some (144, (i : Int)) else none) := HS2.out
          clear HS2
          by_cases hc : kind = 6 ∧ (2 : Int) = 2 ∧ 2 < num
          · have HS4 : Hid (res = some (141, (i : Int))) := by rw [HS3.out, if_pos hc]; rfl
            obtain ⟨rfl, hs12, hn⟩ := hc
            clear HS3 hs12
            go_wp2_with (go_at_call 45; refine (sfault_c _ _ _).mono ?_; rintro e w' ⟨rfl, rfl⟩)
            go_ret
            rw [HS4.out]
            exact ⟨_, rfl, fltV_new (by repeat (first | exact Below.refl _ _ | refine below_drewN ?_ _ | refine below_al ?_ _)) _ _ (by simp)⟩
          · have HS4 : Hid (res = if movesF ts an && movesF ts bn then some (144, (i : Int)) else none) := by rw [HS3.out, if_neg hc]; rfl
            have Hc := Lib.hid hc
            clear HS3 hc
            by_cases hm1 : movesF ts an = true
            · by_cases hm2 : movesF ts bn = true
              · have HS5 : Hid (res = some (144, (i : Int))) := by unfold Hid; rw [HS4.out, hm1, hm2]; rfl
                clear HS4
                go_wp2_with (first | (go_at_call 45; refine (sfault_c _ _ _).mono ?_; rintro e w' ⟨rfl, rfl⟩) | (go_at_call 132; refine (moves_c lb _ _ _ ps sc ts _ _ (Hlook.out.below (by repeat (first | exact Below.refl _ _ | refine below_drewN ?_ _ | refine below_al ?_ _))) (by omega)).mono ?_; rintro e w' ⟨rfl, rfl⟩))
                all_goals first
                  | exact absurd ⟨by assumption, by trivial, by assumption⟩ Hc.out
                  | (go_ret; rw [HS5.out]; exact ⟨_, rfl, fltV_new (by repeat (first | exact Below.refl _ _ | refine below_drewN ?_ _ | refine below_al ?_ _)) _ _ (by simp)⟩)
              · have hm2' : movesF ts bn = false := by simpa using hm2
                have HS5 : Hid (res = none) := by unfold Hid; rw [HS4.out, hm1, hm2']; rfl
                clear HS4
                go_wp2_with (first | (go_at_call 45; refine (sfault_c _ _ _).mono ?_; rintro e w' ⟨rfl, rfl⟩) | (go_at_call 132; refine (moves_c lb _ _ _ ps sc ts _ _ (Hlook.out.below (by repeat (first | exact Below.refl _ _ | refine below_drewN ?_ _ | refine below_al ?_ _))) (by omega)).mono ?_; rintro e w' ⟨rfl, rfl⟩))
                all_goals first
                  | exact absurd ⟨by assumption, by trivial, by assumption⟩ Hc.out
                  | (go_ret; rw [HS5.out]; exact ⟨_, rfl, by repeat (first | exact Below.refl _ _ | refine below_drewN ?_ _ | refine below_al ?_ _), rfl⟩)
            · have hm1' : movesF ts an = false := by simpa using hm1
              have HS5 : Hid (res = none) := by unfold Hid; rw [HS4.out, hm1']; rfl
              clear HS4
              go_wp2_with (first | (go_at_call 45; refine (sfault_c _ _ _).mono ?_; rintro e w' ⟨rfl, rfl⟩) | (go_at_call 132; refine (moves_c lb _ _ _ ps sc ts _ _ (Hlook.out.below (by repeat (first | exact Below.refl _ _ | refine below_drewN ?_ _ | refine below_al ?_ _))) (by omega)).mono ?_; rintro e w' ⟨rfl, rfl⟩))
              all_goals first
                | exact absurd ⟨by assumption, by trivial, by assumption⟩ Hc.out
                | (go_ret; rw [HS5.out]; exact ⟨_, rfl, by repeat (first | exact Below.refl _ _ | refine below_drewN ?_ _ | refine below_al ?_ _), rfl⟩)
    · skip
      go_upto_if 55 with fail
      go_cut [10] (fun s10 wx => s10 = .bool fit ∧ ∃ q, wx = ((w.alloc (.cells #[.int .i64 kind, .string text, .int .i64 num, .slice (some ⟨bk', ok', none⟩) 2 ck] 66)).drewN q))
      case first =>
        by_cases h7 : kind = 7
        · subst h7
          by_cases h6 : s2 = 6
          · subst h6
            go_wp2
            go_meet
            exact ⟨by rw [← Hfit.out]; rfl, _, rfl⟩
          · by_cases h4 : s2 = 4
            · subst h4
              go_wp2
              go_meet
              exact ⟨by rw [← Hfit.out]; rfl, _, rfl⟩
            · by_cases h5 : s2 = 5
              · subst h5
                go_wp2
                go_meet
                exact ⟨by rw [← Hfit.out]; rfl, _, rfl⟩
              · have Hf3 : Hid (fit = false) := by unfold Hid; rw [← Hfit.out]; simp [h6, h4, h5]
                go_wp2
                go_meet
                exact ⟨by rw [Hf3.out]; simp [h6], _, rfl⟩
        · have h7' : (kind == 7) = false := by simpa using h7
          have Hf3 : Hid (fit = decide (s2 = 3)) := by rw [← Hfit.out, if_neg h7]; rfl
          clear h7
          go_wp2
          go_meet
          exact ⟨by rw [Hf3.out]; congr 1, _, rfl⟩
      case rest =>
        obtain ⟨rfl, q, rfl⟩ := hcut
        clear Hfit
        have HB : Below w.heap.size w ((w.alloc (.cells #[.int .i64 kind, .string text, .int .i64 num, .slice (some ⟨bk', ok', none⟩) 2 ck] 66)).drewN q) := below_drewN (below_box _ _) _
        cases fit with
        | false =>
          have HS3 : Hid (res = some (141, (bn : Int))) := HS2.out
          clear HS2
          go_wp2_with (go_at_call 45; refine (sfault_c _ _ _).mono ?_; rintro e w' ⟨rfl, rfl⟩)
          go_ret
          rw [HS3.out]
          exact ⟨_, rfl, fltV_new (by repeat (first | exact Below.refl _ _ | refine below_drewN ?_ _ | refine below_al ?_ _)) _ _ (by simp)⟩
        | true =>
          have HS3 : Hid (res = if kind = 6 ∧ (3:Int) = 2 ∧ 2 < num then some (141, (i : Int)) else if movesF ts an && movesF ts bn then some (144, (i : Int)) else none) := HS2.out
          clear HS2
          by_cases hc : kind = 6 ∧ (3 : Int) = 2 ∧ 2 < num
          · exfalso; omega
          · have HS4 : Hid (res = if movesF ts an && movesF ts bn then some (144, (i : Int)) else none) := by rw [HS3.out, if_neg hc]; rfl
            have Hc := Lib.hid hc
            clear HS3 hc
            by_cases hm1 : movesF ts an = true
            · by_cases hm2 : movesF ts bn = true
              · have HS5 : Hid (res = some (144, (i : Int))) := by unfold Hid; rw [HS4.out, hm1, hm2]; rfl
                clear HS4
                go_wp2_with (first | (go_at_call 45; refine (sfault_c _ _ _).mono ?_; rintro e w' ⟨rfl, rfl⟩) | (go_at_call 132; refine (moves_c lb _ _ _ ps sc ts _ _ (Hlook.out.below (by repeat (first | exact Below.refl _ _ | refine below_drewN ?_ _ | refine below_al ?_ _))) (by omega)).mono ?_; rintro e w' ⟨rfl, rfl⟩))
                all_goals first
                  | exact absurd ⟨by assumption, by trivial, by assumption⟩ Hc.out
                  | (go_ret; rw [HS5.out]; exact ⟨_, rfl, fltV_new (by repeat (first | exact Below.refl _ _ | refine below_drewN ?_ _ | refine below_al ?_ _)) _ _ (by simp)⟩)
              · have hm2' : movesF ts bn = false := by simpa using hm2
                have HS5 : Hid (res = none) := by unfold Hid; rw [HS4.out, hm1, hm2']; rfl
                clear HS4
                go_wp2_with (first | (go_at_call 45; refine (sfault_c _ _ _).mono ?_; rintro e w' ⟨rfl, rfl⟩) | (go_at_call 132; refine (moves_c lb _ _ _ ps sc ts _ _ (Hlook.out.below (by repeat (first | exact Below.refl _ _ | refine below_drewN ?_ _ | refine below_al ?_ _))) (by omega)).mono ?_; rintro e w' ⟨rfl, rfl⟩))
                all_goals first
                  | exact absurd ⟨by assumption, by trivial, by assumption⟩ Hc.out
                  | (go_ret; rw [HS5.out]; exact ⟨_, rfl, by repeat (first | exact Below.refl _ _ | refine below_drewN ?_ _ | refine below_al ?_ _), rfl⟩)
            · have hm1' : movesF ts an = false := by simpa using hm1
              have HS5 : Hid (res = none) := by unfold Hid; rw [HS4.out, hm1']; rfl
              clear HS4
              go_wp2_with (first | (go_at_call 45; refine (sfault_c _ _ _).mono ?_; rintro e w' ⟨rfl, rfl⟩) | (go_at_call 132; refine (moves_c lb _ _ _ ps sc ts _ _ (Hlook.out.below (by repeat (first | exact Below.refl _ _ | refine below_drewN ?_ _ | refine below_al ?_ _))) (by omega)).mono ?_; rintro e w' ⟨rfl, rfl⟩))
              all_goals first
                | exact absurd ⟨by assumption, by trivial, by assumption⟩ Hc.out
                | (go_ret; rw [HS5.out]; exact ⟨_, rfl, by repeat (first | exact Below.refl _ _ | refine below_drewN ?_ _ | refine below_al ?_ _), rfl⟩)
  · have HS2 : Hid (res = some (141, (an : Int))) := by rw [HS.out, sidesG, if_pos (by omega)]; rfl
    have h12 : (s1 != 2) = true := by simp; omega
    have h13 : (s1 != 3) = true := by simp; omega
    clear HS
    go_wp2_with (go_at_call 45; refine (sfault_c _ _ _).mono ?_; rintro e w' ⟨rfl, rfl⟩)
    go_ret
    rw [HS2.out]
    exact ⟨_, rfl, fltV_new (by repeat (first | exact Below.refl _ _ | refine below_drewN ?_ _ | refine below_al ?_ _)) _ _ (by simp)⟩
end Go.Proofs.YtldnkeackphilaaGreatDoor
namespace Go.Proofs.YtldnkeackphilaaGreatDoor
open Go.RowKit

def selectorF (sc : List Int) (ts : List (Int × Int)) (i : Int) (p : Part) : Option (Int × Int) :=
  if sc.getD i.toNat 0 ≠ 2 then some (143, i) else if keyF p.text = false then some (147, i) else boolsF ts p.kids

set_option maxRecDepth 100000 in
set_option maxHeartbeats 2000000 in
theorem selector_c (lb : Nat) (pv sv tv : Value) (ps : List Part) (sc : List Int) (ts : List (Int × Int)) (i : Nat) (p : Part) (w : World) (h : Look w lb pv sv tv ps sc ts) (hp : ps[i]? = some p)
    (hk : ∀ k ∈ p.kids, 0 ≤ k ∧ k < ts.length) (hsl : i < sc.length) (htx : p.text.size ≤ 127) (hG : Glob w) :
    Calls Tryz.prog 86 #[.pointer (some ⟨lb, 0, none⟩), .int .i64 i] w fun e w' => ∃ v, e = .returned v ∧ FltV w (selectorF sc ts i p) v w' := by
  obtain ⟨hc0, hc1, hc2, hlb, hP, hS, hT⟩ := id h
  have Hlook := Lib.hid h
  have HG := Lib.hid hG
  have Hk := Lib.hid hk
  obtain ⟨Ap, cp, rfl, hpl, hpx⟩ := id hP
  obtain ⟨bp, op, kv, rfl, hbp, hr, h0, h1, h3, h4⟩ := hP.get hp
  have hil : i < ps.length := (List.getElem?_eq_some_iff.1 hp).1
  obtain ⟨As, cs, rfl, hsn, hsx⟩ := id hS
  obtain ⟨s, hs⟩ : ∃ s, sc[i]? = some s := ⟨_, List.getElem?_eq_getElem hsl⟩
  obtain ⟨-, bs, os, rfl, hbs, hcs⟩ := hsx i s hs
  have HKids := Lib.hid hr.2.2.2
  obtain ⟨-, -, -, Ak, ck, rfl, -, -⟩ := id hr
  have HS : Hid (selectorF sc ts i p = if s ≠ 2 then some (143, (i : Int)) else if keyF p.text = false then some (147, (i : Int)) else boolsF ts p.kids) := by
    unfold Hid
    rw [selectorF]
    simp only [Int.toNat_natCast, List.getD_eq_getElem?_getD, hs, Option.getD_some]
  generalize selectorF sc ts i p = res at *
  clear hpx hsx hs h hP hr hS hT hk hp hG
  go_enter Tryz.func86, Tryz.ntmps86
  by_cases hs2 : s = 2
  · subst hs2
    by_cases hky : keyF p.text = true
    · have HS2 : Hid (res = boolsF ts p.kids) := by unfold Hid; rw [HS.out]; simp [hky]
      clear HS
      go_wp2_with (first | (go_at_call 133; refine (isKey_c _ _ (by omega) (HG.out.below (by repeat (first | exact Below.refl _ _ | assumption | refine below_drewN ?_ _ | refine below_al ?_ _)))).mono ?_; rintro e w1 ⟨rfl, hB⟩; obtain ⟨hcb, hfb⟩ := bcell hB; have hB2 := hB.size; have HB : Below w.heap.size w w1 := below_then (by repeat (first | exact Below.refl _ _ | assumption | refine below_drewN ?_ _ | refine below_al ?_ _)) (by simp) hB; clear hB; simp only [World.size_alloc] at hB2) | (go_at_call 84; refine (bools_c lb _ _ _ ps sc ts _ p.kids _ (Hlook.out.below HB) (HKids.out.below HB) Hk.out).mono ?_; rintro e w2 ⟨v, rfl, hv⟩))
      go_ret
      rw [HS2.out]
      exact ⟨_, rfl, hv.from HB⟩
    · have hky' : keyF p.text = false := by simpa using hky
      have HS2 : Hid (res = some (147, (i : Int))) := by unfold Hid; rw [HS.out]; simp [hky']
      clear HS
      go_wp2_with (first | (go_at_call 133; refine (isKey_c _ _ (by omega) (HG.out.below (by repeat (first | exact Below.refl _ _ | assumption | refine below_drewN ?_ _ | refine below_al ?_ _)))).mono ?_; rintro e w1 ⟨rfl, hB⟩; have HB : Below w.heap.size w w1 := below_then (by repeat (first | exact Below.refl _ _ | assumption | refine below_drewN ?_ _ | refine below_al ?_ _)) (by simp) hB; clear hB) | (go_at_call 45; refine (sfault_c _ _ _).mono ?_; rintro e w' ⟨rfl, rfl⟩))
      go_ret
      rw [HS2.out]
      exact ⟨_, rfl, fltV_new HB _ _ rfl⟩
  · have hs2' : (s != 2) = true := by simpa using hs2
    have HS2 : Hid (res = some (143, (i : Int))) := by unfold Hid; rw [HS.out]; simp [hs2]
    clear HS
    go_wp2_with (go_at_call 45; refine (sfault_c _ _ _).mono ?_; rintro e w' ⟨rfl, rfl⟩)
    go_ret
    rw [HS2.out]
    exact ⟨_, rfl, fltV_new (by repeat (first | exact Below.refl _ _ | assumption | refine below_drewN ?_ _ | refine below_al ?_ _)) _ _ (by simp)⟩

def TypP (w : World) (r : (Int × Int) ⊕ (Int × Int)) (e : Ending) (w' : World) : Prop :=
  ∃ (s d : Int) (fv : Value), e = .returned (.tuple #[.agg #[.int .i64 s, .int .i64 d], fv]) ∧
    match r with
    | .inl f => FltV w (some f) fv w'
    | .inr t => FltV w none fv w' ∧ t = (s, d)
def setF (ts : List (Int × Int)) (kids : List Int) : (Int × Int) ⊕ (Int × Int) :=
  match kids with
  | [] => .inr (6, 0)
  | k0 :: _ =>
    match kids.find? fun k => decide (sortAt ts k ≠ sortAt ts k0) with
    | some k => .inl (146, k)
    | none => if sortAt ts k0 = 2 then .inr (4, 0) else .inr (5, 0)
end Go.Proofs.YtldnkeackphilaaGreatDoor
namespace Go.Proofs.YtldnkeackphilaaGreatDoor
open Go.RowKit

theorem setF_cons (ts : List (Int × Int)) (k0 : Int) (r : List Int) : setF ts (k0 :: r) = match (k0 :: r).find? (fun k => decide (sortAt ts k ≠ sortAt ts k0)) with
    | some k => .inl (146, k)
    | none => if sortAt ts k0 = 2 then .inr (4, 0) else .inr (5, 0) := rfl

set_option maxRecDepth 100000 in
set_option maxHeartbeats 2000000 in
theorem set_c (lb : Nat) (pv sv tv : Value) (ps : List Part) (sc : List Int) (ts : List (Int × Int)) (p : Part) (kv : Value) (w : World) (h : Look w lb pv sv tv ps sc ts) (hr : PartR w p kv)
    (hk : ∀ k ∈ p.kids, 0 ≤ k ∧ k < ts.length) :
    Calls Tryz.prog 87 #[.pointer (some ⟨lb, 0, none⟩), .agg #[.int .i64 p.kind, .string p.text, .int .i64 p.num, kv]] w (TypP w (setF ts p.kids)) := by
  obtain ⟨hc0, hc1, hc2, hlb, hP, hS, hT⟩ := id h
  obtain ⟨-, -, -, Ak, ck, rfl, hkl, hkx⟩ := hr
  obtain ⟨At, ct, rfl, htl, htx⟩ := id hT
  obtain ⟨kind, text, num, kids⟩ := p
  simp only at hk hkx hkl ⊢
  rcases kids with _ | ⟨k0, r⟩
  · have HS : Hid (setF ts [] = .inr (6, 0)) := rfl
    generalize setF ts [] = res at *
    clear htx hkx
    go_enter Tryz.func87, Tryz.ntmps87
    go_wp2
    exact bodyPost_ret (v := .tuple #[.agg #[.int .i64 6, .int .i64 0], .pointer none]) (by simp [results, Tryz.results87, go_sem]) rfl
      ⟨6, 0, _, rfl, by rw [HS.out]; exact ⟨⟨(by repeat (first | exact Below.refl _ _ | assumption | refine below_drewN ?_ _ | refine below_al ?_ _ | refine Below.setCell ?_ (by simp) _)), rfl⟩, rfl⟩⟩
  · have HS := Lib.hid (setF_cons ts k0 r)
    have hk0 := hk k0 (by simp)
    obtain ⟨kn, rfl⟩ := Int.eq_ofNat_of_zero_le hk0.1
    obtain ⟨-, bk, ok, rfl, hbk, hck0⟩ := hkx 0 kn rfl
    have hknl : kn < ts.length := by omega
    obtain ⟨⟨s0, d0⟩, ht0⟩ : ∃ t, ts[kn]? = some t := ⟨_, List.getElem?_eq_getElem hknl⟩
    obtain ⟨bt_, ot, rfl, hbt, hs0, -⟩ := htx kn _ ht0
    have hso : sortAt ts kn = s0 := sortAt_nat ht0
    rw [hso] at HS
    have Hkx := Lib.hid hkx
    have Hk := Lib.hid hk
    have Htx := Lib.hid htx
    have hlen : ((kn : Int) :: r).length = r.length + 1 := rfl
    rw [hlen] at hkl ⊢
    generalize hL : ((kn : Int) :: r) = L at *
    generalize hn : r.length + 1 = n at *
    have Hn : Hid (L.length = n) := hlen
    have hn1 : 1 ≤ n := by omega
    generalize setF ts L = res at *
    rw [Nat.add_zero] at hck0
    clear hkx hk htx hL hn ht0 hso hlen
    go_enter Tryz.func87, Tryz.ntmps87
    go_wp2
    go_quiet (fail)
    go_wp2
    generalize hW : (((w.alloc (.cells #[.int .i64 kind, .string text, .int .i64 num, .slice (some ⟨bk, ok, none⟩) n ck] 66)).alloc (.cells #[.int .i64 0, .int .i64 0] 129)).drewN nq) = W at *
    have HBW : Below w.heap.size w W := by rw [← hW]; exact (by repeat (first | exact Below.refl _ _ | assumption | refine below_drewN ?_ _ | refine below_al ?_ _ | refine Below.setCell ?_ (by simp) _))
    have hw0 : W.cell? ⟨w.heap.size + 1, 0, none⟩ = some (.int .i64 0) := by rw [← hW]; simp
    have hw1 : W.cell? ⟨w.heap.size + 1, 1, none⟩ = some (.int .i64 0) := by rw [← hW]; simp
    have hf0 : W.frozen? ⟨w.heap.size + 1, 0, none⟩ = false := by rw [← hW]; simp
    have hf1 : W.frozen? ⟨w.heap.size + 1, 1, none⟩ = false := by rw [← hW]; simp
    have hl2 := cell_below HBW hc2
    have hsz : w.heap.size + 1 < W.heap.size := by rw [← hW]; simp
    clear hW hck0 hs0 hc0 hc1 hc2
    go_loop [28] (fun i => ∃ k : Nat, k ≤ n ∧ i = .int .i64 k ∧ Hid (res = match (L.drop k).find? (fun k => decide (sortAt ts k ≠ s0)) with | some k => .inl (146, k) | none => if s0 = 2 then .inr (4, 0) else .inr (5, 0))) (fun i => n - (intOf i).toNat)
    case atStart => exact ⟨0, Nat.zero_le _, rfl, HS⟩
    case round =>
      obtain ⟨k, hkn, rfl, hd⟩ := hrel
      by_cases hlt : k < n
      · obtain ⟨x, hx⟩ : ∃ x, L[k]? = some x := ⟨_, List.getElem?_eq_getElem (by have := Hn.out; omega)⟩
        obtain ⟨hR, bk', ok', hAk, -, hck⟩ := Hkx.out k x hx
        obtain ⟨rfl, rfl⟩ : bk' = bk ∧ ok' = ok := by simpa using hAk.symm
        have hxr := Hk.out x (List.mem_of_getElem? hx)
        obtain ⟨xn, rfl⟩ : ∃ xn : Nat, x = xn := Int.eq_ofNat_of_zero_le (by omega)
        obtain ⟨⟨s, t⟩, ht⟩ : ∃ t, ts[xn]? = some t := ⟨_, List.getElem?_eq_getElem (by omega)⟩
        obtain ⟨b, o, hA, hb, h1, h2⟩ := Htx.out xn _ ht
        obtain ⟨rfl, rfl⟩ : b = bt_ ∧ o = ot := by simpa using hA.symm
        have hck' := cell_below HBW hck
        have h1' := cell_below HBW h1
        have HS2 : Hid (res = if s = s0 then (match (L.drop (k + 1)).find? (fun k => decide (sortAt ts k ≠ s0)) with | some k => .inl (146, k) | none => if s0 = 2 then .inr (4, 0) else .inr (5, 0)) else .inl (146, (xn : Int))) := by
          unfold Hid
          obtain ⟨hk', he⟩ := List.getElem?_eq_some_iff.1 hx
          rw [hd.out, List.drop_eq_getElem_cons hk', he, List.find?_cons, sortAt_nat ht]
          by_cases h1 : s = s0 <;> simp [h1]
        clear hx ht hd hck h1 h2 hAk hA
        by_cases hss : s = s0
        · have hss' : (s != s0) = false := by simpa using hss
          have HS3 : Hid (res = match (L.drop (k + 1)).find? (fun k => decide (sortAt ts k ≠ s0)) with | some k => .inl (146, k) | none => if s0 = 2 then .inr (4, 0) else .inr (5, 0)) := by rw [HS2.out, if_pos hss]; rfl
          clear HS2 hss
          go_wp2
          go_round
          case rel => exact ⟨k + 1, by omega, by go_num, HS3⟩
          case measure => simp [intOf]; try omega
        · have hss' : (s != s0) = true := by simpa using hss
          have HS3 : Hid (res = .inl (146, (xn : Int))) := by rw [HS2.out, if_neg hss]; rfl
          clear HS2 hss
          go_wp2_with (go_at_call 45; refine (sfault_c _ _ _).mono ?_; rintro e w' ⟨rfl, rfl⟩)
          exact bodyPost_ret (v := .tuple #[.agg #[.int .i64 0, .int .i64 0], .pointer (some ⟨W.heap.size, 0, none⟩)]) (by simp [results, Tryz.results87, go_sem, *]) rfl
            ⟨0, 0, _, rfl, by rw [HS3.out]; exact fltV_new (by repeat (first | exact Below.refl _ _ | assumption | refine below_drewN ?_ _ | refine below_al ?_ _ | refine Below.setCell ?_ (by simp) _)) _ _ (by simp [World.setCell])⟩
      · have HS3 : Hid (res = if s0 = 2 then .inr (4, 0) else .inr (5, 0)) := by
          unfold Hid
          rw [hd.out, List.drop_eq_nil_of_le (by have := Hn.out; omega)]; rfl
        clear hd
        by_cases h2 : s0 = 2
        · have HS4 : Hid (res = .inr (4, 0)) := by rw [HS3.out, if_pos h2]; rfl
          have h2' : (s0 == 2) = true := by simpa using h2
          clear HS3 h2
          go_wp2
          exact bodyPost_ret (v := .tuple #[.agg #[.int .i64 4, .int .i64 0], .pointer none]) (by simp [results, Tryz.results87, go_sem, *]) rfl
            ⟨4, 0, _, rfl, by rw [HS4.out]; exact ⟨⟨(by repeat (first | exact Below.refl _ _ | assumption | refine below_drewN ?_ _ | refine below_al ?_ _ | refine Below.setCell ?_ (by simp) _)), rfl⟩, rfl⟩⟩
        · have HS4 : Hid (res = .inr (5, 0)) := by rw [HS3.out, if_neg h2]; rfl
          have h2' : (s0 == 2) = false := by simpa using h2
          clear HS3 h2
          go_wp2
          exact bodyPost_ret (v := .tuple #[.agg #[.int .i64 5, .int .i64 0], .pointer none]) (by simp [results, Tryz.results87, go_sem, *]) rfl
            ⟨5, 0, _, rfl, by rw [HS4.out]; exact ⟨⟨(by repeat (first | exact Below.refl _ _ | assumption | refine below_drewN ?_ _ | refine below_al ?_ _ | refine Below.setCell ?_ (by simp) _)), rfl⟩, rfl⟩⟩
end Go.Proofs.YtldnkeackphilaaGreatDoor
