/- Names, keys, effects: the program's and the reference's. -/
import Derived.Test.YtldnkeackphilaaGreatDoorNd12
import Derived.Shelf.Strings.Cut
import Derived.Shelf.Strings.Split
import Derived.Shelf.Strings.Prefix
import Derived.Shelf.Small.Bits
import Derived.Test.YtldnkeackphilaaGreatDoorProg
import Derived.Test.YtldnkeackphilaaGreatDoorNd11
import Derived.IntWalk
import Derived.Shelf.Sort.Plain
import Derived.Shelf.Slices.CompactI
import Derived.Shelf.Slices.CompactS
import Derived.Shelf.Slices.In.SortNone
import Derived.Shelf.Slices.Turned
import Derived.Sort.OwnSorted
import Derived.Test.YtldnkeackphilaaGreatDoorNd1
set_option linter.unusedSimpArgs false
set_option linter.unusedVariables false
namespace Go.Proofs.YtldnkeackphilaaGreatDoor
open Go.RowKit

def bt (s : ByteArray) (i : Nat) : Int := if h : i < s.size then ((s[i]'h).toNat : Int) else 0
theorem bt_at (s : ByteArray) (i : Nat) : ∀ h : i < s.size, ((s[i]'h).toNat : Int) = bt s i := fun h => by simp [bt, h]
theorem bt_range (s : ByteArray) (i : Nat) : 0 ≤ bt s i ∧ bt s i ≤ 255 := by
  unfold bt
  split
  · rename_i h
    have := (s[i]'h).toNat_lt
    omega
  · omega
def allFrom (f : Int → Bool) (s : ByteArray) (i : Nat) : Bool := if h : i < s.size then f (bt s i) && allFrom f s (i + 1) else true
termination_by s.size - i
theorem allFrom_end (f : Int → Bool) (s : ByteArray) (i : Nat) (h : ¬ i < s.size) : allFrom f s i = true := by unfold allFrom; rw [dif_neg h]
theorem allFrom_step (f : Int → Bool) (s : ByteArray) (i : Nat) (h : i < s.size) : allFrom f s i = (f (bt s i) && allFrom f s (i + 1)) := by conv => lhs; unfold allFrom; rw [dif_pos h]

def lowN (n : Int) : Bool := decide (97 ≤ n ∧ n ≤ 122 ∨ 48 ≤ n ∧ n ≤ 57)
def wordN (n : Int) : Bool := lowN n || decide (65 ≤ n ∧ n ≤ 90)
def innerN (n : Int) : Bool := wordN n || decide (n = 45 ∨ n = 95 ∨ n = 46)
def partN (n : Int) : Bool := lowN n || decide (n = 45)

section
variable (n : Int) (w : World)
theorem low_c : Calls Tryz.prog 224 #[.int .u8 n] w fun e w' => e = .returned (.bool (lowN n)) ∧ w' = w := by
  go_enter Tryz.func224, Tryz.ntmps224
  go_wp2
  all_goals (go_ret; exact ⟨ret_b (by rw [Bool.eq_iff_iff]; simp_all [lowN]; try grind), rfl⟩)
theorem word_c : Calls Tryz.prog 225 #[.int .u8 n] w fun e w' => e = .returned (.bool (wordN n)) ∧ w' = w := by
  go_enter Tryz.func225, Tryz.ntmps225
  go_wp2_with (go_at_call 224; refine (low_c _ _).mono ?_; rintro e w' ⟨rfl, rfl⟩)
  all_goals (go_ret; exact ⟨ret_b (by rw [Bool.eq_iff_iff]; simp_all [wordN]; try grind), rfl⟩)
theorem innerB_c : Calls Tryz.prog 226 #[.int .u8 n] w fun e w' => e = .returned (.bool (innerN n)) ∧ w' = w := by
  go_enter Tryz.func226, Tryz.ntmps226
  go_wp2_with (go_at_call 225; refine (word_c _ _).mono ?_; rintro e w' ⟨rfl, rfl⟩)
  all_goals (go_ret; exact ⟨ret_b (by rw [Bool.eq_iff_iff]; simp_all [innerN]; try grind), rfl⟩)
end
def shortF (s : ByteArray) : Bool := decide (1 ≤ s.size ∧ s.size ≤ 63) && wordN (bt s 0) && wordN (bt s (s.size - 1)) && allFrom innerN s 0

set_option maxHeartbeats 1000000 in
theorem isShort_c (s : ByteArray) (w : World) (hs : s.size ≤ 9223372036854775807) : Calls Tryz.prog 187 #[.string s] w fun e w' => e = .returned (.bool (shortF s)) ∧ w' = w := by
  have b0 := bt_at s 0
  have b1 := bt_at s (s.size - 1)
  have Hb : Hid (shortF s = (decide (1 ≤ s.size ∧ s.size ≤ 63) && wordN (bt s 0) && wordN (bt s (s.size - 1)) && allFrom innerN s 0)) := rfl
  have Ha : Hid (∀ k, k < s.size → allFrom innerN s k = (innerN (bt s k) && allFrom innerN s (k + 1))) := allFrom_step innerN s
  generalize shortF s = sh at *
  generalize bt s 0 = x0 at *
  generalize bt s (s.size - 1) = x1 at *
  by_cases h1 : 1 ≤ s.size
  · by_cases h63 : s.size ≤ 63
    · have hs1 : ((s.size : Int) - 1) = ((s.size - 1 : Nat) : Int) := by omega
      by_cases hw0 : wordN x0 = true
      · by_cases hw1 : wordN x1 = true
        · have Hb' : Hid (sh = allFrom innerN s 0) := by unfold Hid; rw [Hb.out]; simp [h1, h63, hw0, hw1]
          clear Hb
          go_enter Tryz.func187, Tryz.ntmps187
          go_wp2_with (go_at_call 225; refine (word_c _ _).mono ?_; rintro e w' ⟨rfl, rfl⟩)
          go_loop [29] (fun i => ∃ (k : Nat), k ≤ s.size ∧ i = .int .i64 k ∧ Hid (sh = allFrom innerN s k)) (fun i => s.size - (intOf i).toNat)
          case atStart => exact ⟨0, Nat.zero_le _, rfl, Hb'⟩
          case round =>
            obtain ⟨k, hk, rfl, hd⟩ := hrel
            by_cases hlt : k < s.size
            · have bk := bt_at s k
              have Hst : Hid (sh = (innerN (bt s k) && allFrom innerN s (k + 1))) := by rw [hd.out, Ha.out k hlt]; rfl
              generalize bt s k = x at *
              by_cases hx : innerN x = true
              · have Hst' : Hid (sh = allFrom innerN s (k + 1)) := by rw [Hst.out, hx]; rfl
                clear Hst hd
                go_wp2_with (go_at_call 226; refine (innerB_c _ _).mono ?_; rintro e w' ⟨rfl, rfl⟩)
                go_round
                case rel => exact ⟨k + 1, by omega, by go_num, Hst'⟩
                case measure => simp [intOf]; try omega
              · have hx' : innerN x = false := by simpa using hx
                have Hst' : Hid (sh = false) := by rw [Hst.out, hx']; rfl
                clear Hst hd
                go_wp2_with (go_at_call 226; refine (innerB_c _ _).mono ?_; rintro e w' ⟨rfl, rfl⟩)
                go_ret
                exact ⟨ret_b Hst'.out.symm, rfl⟩
            · have Hst' : Hid (sh = true) := by rw [hd.out]; exact allFrom_end _ _ _ hlt
              clear hd
              go_wp2
              go_ret
              exact ⟨ret_b Hst'.out.symm, rfl⟩
        · have hw1' : wordN x1 = false := by simpa using hw1
          have Hb' : Hid (sh = false) := by unfold Hid; rw [Hb.out]; simp [hw1']
          clear Hb
          go_enter Tryz.func187, Tryz.ntmps187
          go_wp2_with (go_at_call 225; refine (word_c _ _).mono ?_; rintro e w' ⟨rfl, rfl⟩)
          go_ret
          exact ⟨ret_b Hb'.out.symm, rfl⟩
      · have hw0' : wordN x0 = false := by simpa using hw0
        have Hb' : Hid (sh = false) := by unfold Hid; rw [Hb.out]; simp [hw0']
        clear Hb
        go_enter Tryz.func187, Tryz.ntmps187
        go_wp2_with (go_at_call 225; refine (word_c _ _).mono ?_; rintro e w' ⟨rfl, rfl⟩)
        go_ret
        exact ⟨ret_b Hb'.out.symm, rfl⟩
    · have Hb' : Hid (sh = false) := by unfold Hid; rw [Hb.out]; simp [h63]
      clear Hb
      go_enter Tryz.func187, Tryz.ntmps187
      go_wp2_with (go_at_call 225; refine (word_c _ _).mono ?_; rintro e w' ⟨rfl, rfl⟩)
      go_ret
      exact ⟨ret_b Hb'.out.symm, rfl⟩
  · have Hb' : Hid (sh = false) := by unfold Hid; rw [Hb.out]; simp [h1]
    clear Hb
    go_enter Tryz.func187, Tryz.ntmps187
    go_wp2_with (go_at_call 225; refine (word_c _ _).mono ?_; rintro e w' ⟨rfl, rfl⟩)
    go_ret
    exact ⟨ret_b Hb'.out.symm, rfl⟩
end Go.Proofs.YtldnkeackphilaaGreatDoor
namespace Go.Proofs
open Go.Shelf
def Tryz.lays145_ren : Go.Shelf.Ren := ⟨fun | 145 => 185 | 220 => 222 | 219 => 243 | 217 => 248 | 225 => 249 | 224 => 250 | 267 => 251 | 266 => 255 | 314 => 256 | n => n, fun | 9 => 9 | 4 => 4 | 59 => 285 | 3 => 3 | 5 => 5 | 46 => 277 | 146 => 369 | 51 => 336 | n => n, fun | 1 => 1 | n => n⟩
theorem Tryz.lays145 : Go.Proofs.Lays.n145 Tryz.prog Tryz.lays145_ren := {
  mixed := by kernel_rfl
  f145 := Tryz.func185.trans (congrArg some (by kernel_rfl))
  f217 := Tryz.func248.trans (congrArg some (by kernel_rfl))
  f219 := Tryz.func243.trans (congrArg some (by kernel_rfl))
  f220 := Tryz.func222.trans (congrArg some (by kernel_rfl))
  f224 := Tryz.func250.trans (congrArg some (by kernel_rfl))
  f225 := Tryz.func249.trans (congrArg some (by kernel_rfl))
  f266 := Tryz.func255.trans (congrArg some (by kernel_rfl))
  f267 := Tryz.func251.trans (congrArg some (by kernel_rfl))
  f314 := Tryz.func256.trans (congrArg some (by kernel_rfl))
  t3 := Tryz.underlying3
  a3 := Tryz.isAgg3
  z3 := Tryz.sizeOf3
  v3 := Tryz.zeroValue3
  t4 := Tryz.underlying4
  a4 := Tryz.isAgg4
  z4 := Tryz.sizeOf4
  v4 := Tryz.zeroValue4
  t5 := Tryz.underlying5
  a5 := Tryz.isAgg5
  z5 := Tryz.sizeOf5
  v5 := Tryz.zeroValue5
  t9 := Tryz.underlying9
  a9 := Tryz.isAgg9
  z9 := Tryz.sizeOf9
  v9 := Tryz.zeroValue9
  t46 := Tryz.underlying277
  a46 := Tryz.isAgg277
  z46 := Tryz.sizeOf277
  v46 := Tryz.zeroValue277
  t51 := Tryz.underlying336
  a51 := Tryz.isAgg336
  z51 := Tryz.sizeOf336
  v51 := Tryz.zeroValue336
  t59 := Tryz.underlying285
  a59 := Tryz.isAgg285
  z59 := Tryz.sizeOf285
  v59 := Tryz.zeroValue285
  t146 := Tryz.underlying369
  a146 := Tryz.isAgg369
  z146 := Tryz.sizeOf369
  v146 := Tryz.zeroValue369
  g1 := by kernel_rfl }
open Go.RowKit Go.Lib in
theorem Tryz.strings_Cut (s sep : ByteArray) (m : Int) (w : World) (hs : s.size < 4294967281) (hm : w.cell? ⟨1, 0, none⟩ = some (.int .i64 m)) :
    Calls Tryz.prog 185 #[.string s, .string sep] w fun e w' => e = .returned (.tuple #[.string ⟨(Lib.cut s.data.toList sep.data.toList).1.toArray⟩, .string ⟨(Lib.cut s.data.toList sep.data.toList).2.1.toArray⟩, .bool (Lib.cut s.data.toList sep.data.toList).2.2]) ∧ ∃ n, w' = w.drewN n := Any.strings_Cut Tryz.lays145 s sep m w hs hm
def Tryz.lays101_ren : Go.Shelf.Ren := ⟨fun | 101 => 198 | 208 => 231 | 206 => 245 | n => n, fun | 9 => 9 | 4 => 4 | 3 => 3 | n => n, fun | n => n⟩
theorem Tryz.lays101 : Go.Proofs.Lays.n101 Tryz.prog Tryz.lays101_ren := {
  mixed := by kernel_rfl
  f101 := Tryz.func198.trans (congrArg some (by kernel_rfl))
  f206 := Tryz.func245.trans (congrArg some (by kernel_rfl))
  f208 := Tryz.func231.trans (congrArg some (by kernel_rfl))
  t3 := Tryz.underlying3
  a3 := Tryz.isAgg3
  z3 := Tryz.sizeOf3
  v3 := Tryz.zeroValue3
  t4 := Tryz.underlying4
  a4 := Tryz.isAgg4
  z4 := Tryz.sizeOf4
  v4 := Tryz.zeroValue4
  t9 := Tryz.underlying9
  a9 := Tryz.isAgg9
  z9 := Tryz.sizeOf9
  v9 := Tryz.zeroValue9 }
open Go.RowKit Go.Lib in
theorem Tryz.strings_TrimPrefix (s p : ByteArray) (w : World) :
    Calls Tryz.prog 198 #[.string s, .string p] w fun e w' => e = .returned (.string ⟨(Lib.trimPrefix s.data.toList p.data.toList).toArray⟩) ∧ w' = w := Any.strings_TrimPrefix Tryz.lays101 s p w
def Tryz.lays146_ren : Go.Shelf.Ren := ⟨fun | 146 => 223 | 221 => 244 | 268 => 252 | 138 => 253 | 143 => 254 | 195 => 257 | 197 => 258 | 218 => 259 | 219 => 243 | 260 => 260 | 217 => 248 | 225 => 249 | 224 => 250 | 267 => 251 | 266 => 255 | 314 => 256 | n => n, fun | 9 => 9 | 31 => 59 | 3 => 3 | 4 => 4 | 0 => 0 | 105 => 372 | 21 => 21 | 5 => 5 | 46 => 277 | 119 => 374 | 139 => 377 | 138 => 376 | 146 => 369 | 51 => 336 | n => n, fun | 1 => 1 | 3 => 2 | 4 => 3 | n => n⟩
theorem Tryz.lays146 : Go.Proofs.Lays.n146 Tryz.prog Tryz.lays146_ren := {
  mixed := by kernel_rfl
  f138 := Tryz.func253.trans (congrArg some (by kernel_rfl))
  f143 := Tryz.func254.trans (congrArg some (by kernel_rfl))
  f146 := Tryz.func223.trans (congrArg some (by kernel_rfl))
  f195 := Tryz.func257.trans (congrArg some (by kernel_rfl))
  f197 := Tryz.func258.trans (congrArg some (by kernel_rfl))
  f217 := Tryz.func248.trans (congrArg some (by kernel_rfl))
  f218 := Tryz.func259.trans (congrArg some (by kernel_rfl))
  f219 := Tryz.func243.trans (congrArg some (by kernel_rfl))
  f221 := Tryz.func244.trans (congrArg some (by kernel_rfl))
  f224 := Tryz.func250.trans (congrArg some (by kernel_rfl))
  f225 := Tryz.func249.trans (congrArg some (by kernel_rfl))
  f260 := Tryz.func260.trans (congrArg some (by kernel_rfl))
  f266 := Tryz.func255.trans (congrArg some (by kernel_rfl))
  f267 := Tryz.func251.trans (congrArg some (by kernel_rfl))
  f268 := Tryz.func252.trans (congrArg some (by kernel_rfl))
  f314 := Tryz.func256.trans (congrArg some (by kernel_rfl))
  t0 := Tryz.underlying0
  a0 := Tryz.isAgg0
  z0 := Tryz.sizeOf0
  v0 := Tryz.zeroValue0
  t3 := Tryz.underlying3
  a3 := Tryz.isAgg3
  z3 := Tryz.sizeOf3
  v3 := Tryz.zeroValue3
  t4 := Tryz.underlying4
  a4 := Tryz.isAgg4
  z4 := Tryz.sizeOf4
  v4 := Tryz.zeroValue4
  t5 := Tryz.underlying5
  a5 := Tryz.isAgg5
  z5 := Tryz.sizeOf5
  v5 := Tryz.zeroValue5
  t9 := Tryz.underlying9
  a9 := Tryz.isAgg9
  z9 := Tryz.sizeOf9
  v9 := Tryz.zeroValue9
  t21 := Tryz.underlying21
  a21 := Tryz.isAgg21
  z21 := Tryz.sizeOf21
  v21 := Tryz.zeroValue21
  t31 := Tryz.underlying59
  a31 := Tryz.isAgg59
  z31 := Tryz.sizeOf59
  v31 := Tryz.zeroValue59
  t46 := Tryz.underlying277
  a46 := Tryz.isAgg277
  z46 := Tryz.sizeOf277
  v46 := Tryz.zeroValue277
  t51 := Tryz.underlying336
  a51 := Tryz.isAgg336
  z51 := Tryz.sizeOf336
  v51 := Tryz.zeroValue336
  t105 := Tryz.underlying372
  a105 := Tryz.isAgg372
  z105 := Tryz.sizeOf372
  v105 := Tryz.zeroValue372
  t119 := Tryz.underlying374
  a119 := Tryz.isAgg374
  z119 := Tryz.sizeOf374
  t138 := Tryz.underlying376
  a138 := Tryz.isAgg376
  z138 := Tryz.sizeOf376
  v138 := Tryz.zeroValue376
  t139 := Tryz.underlying377
  a139 := Tryz.isAgg377
  z139 := Tryz.sizeOf377
  v139 := Tryz.zeroValue377
  t146 := Tryz.underlying369
  a146 := Tryz.isAgg369
  z146 := Tryz.sizeOf369
  v146 := Tryz.zeroValue369
  g1 := by kernel_rfl
  g3 := by kernel_rfl
  g4 := by kernel_rfl }
open Go.RowKit Go.Lib in
theorem Tryz.strings_Split (s sep : ByteArray) (m : Int) (w : World) (hs : s.size < 4294967281) (hm : w.cell? ⟨1, 0, none⟩ = some (.int .i64 m)) (h1 : 1 ≤ sep.size) :
    Calls Tryz.prog 223 #[.string s, .string sep] w fun e w' =>
      e = .returned (.slice (some ⟨w.heap.size, 0, none⟩) (Lib.countB s sep + 1) (Lib.countB s sep + 1)) ∧ w' = w.alloc (.cells ((Lib.splitB sep 0 (Lib.countB s sep) s).map Value.string).toArray 9) := Any.strings_Split Tryz.lays146 (by kernel_rfl) s sep m w hs hm h1
end Go.Proofs
namespace Go.Proofs.YtldnkeackphilaaGreatDoor
open Go.RowKit

structure Glob (w : World) : Prop where
  ml : ∃ m : Int, w.cell? ⟨1, 0, none⟩ = some (.int .i64 m)
  et : w.cell? ⟨0, 0, none⟩ = some (.iface 240 (.agg #[.pointer (some ⟨4, 44, none⟩)]))
theorem Glob.below {w w1 : World} (h : Glob w) (hb : Below w.heap.size w w1) : Glob w1 :=
  ⟨h.ml.imp fun _ h => cell_below hb h, cell_below hb h.et⟩

theorem ne_empty {p : ByteArray} (h : 0 < p.size) : ¬ p.toList = [] := by
  intro e
  rw [Lib.toList_data] at e
  have e3 : p.data.toList.length = p.size := by rw [Array.length_toList]; rfl
  rw [e] at e3
  simp at e3
  omega
theorem is_empty {p : ByteArray} (h : ¬ 0 < p.size) : p.toList = [] := by
  rw [Lib.toList_data]
  apply List.eq_nil_of_length_eq_zero
  have e3 : p.data.toList.length = p.size := by rw [Array.length_toList]; rfl
  omega
def pieceF (p : ByteArray) : Bool := decide (0 < p.size) && lowN (bt p 0) && lowN (bt p (p.size - 1)) && allFrom partN p 0
def nameF (s : ByteArray) : Bool := decide (1 ≤ s.size ∧ s.size ≤ 63) && (piecesB 46 s).all pieceF

theorem all_step {α : Type} {f : α → Bool} {l : List α} {k : Nat} {x : α} (h : l[k]? = some x) : (l.drop k).all f = (f x && (l.drop (k + 1)).all f) := by
  obtain ⟨hk, rfl⟩ := List.getElem?_eq_some_iff.1 h
  rw [List.drop_eq_getElem_cons hk, List.all_cons]
theorem piecesB_short (c : UInt8) (s p : ByteArray) (h : p ∈ piecesB c s) : p.size ≤ s.size := by
  have key : ∀ l : List UInt8, ∀ q ∈ pieces c l, q.length ≤ l.length := by
    intro l
    induction l with
    | nil => intro q hq; simp [pieces] at hq; subst hq; simp
    | cons b l ih =>
      intro q hq
      rw [pieces] at hq
      split at hq
      · rcases List.mem_cons.1 hq with rfl | hq
        · simp
        · have := ih q hq; simp; omega
      · split at hq
        · rename_i p' ps' he
          rw [he] at ih
          rcases List.mem_cons.1 hq with rfl | hq
          · have := ih p' (by simp); simp; omega
          · have := ih q (by simp [hq]); simp; omega
        · simp at hq; subst hq; simp
  unfold piecesB at h
  obtain ⟨q, hq, rfl⟩ := List.mem_map.1 h
  have := key _ q hq
  have e : s.data.toList.length = s.size := by rw [Array.length_toList]; rfl
  have e2 : (⟨q.toArray⟩ : ByteArray).size = q.length := rfl
  omega

set_option maxHeartbeats 2000000 in
set_option maxRecDepth 100000 in
theorem isName_c (s : ByteArray) (w : World) (hs : s.size < 4294967281) (hG : Glob w) : Calls Tryz.prog 186 #[.string s] w fun e w' => e = .returned (.bool (nameF s)) ∧ Below w.heap.size w w' := by
  have Hb : Hid (nameF s = (decide (1 ≤ s.size ∧ s.size ≤ 63) && (piecesB 46 s).all pieceF)) := rfl
  generalize nameF s = sh at *
  obtain ⟨ml, hml⟩ := hG.ml
  clear hG
  by_cases h1 : 1 ≤ s.size
  · by_cases h63 : s.size ≤ 63
    · have Hb' : Hid (sh = (piecesB 46 s).all pieceF) := by unfold Hid; rw [Hb.out]; simp [h1, h63]
      have Hml := Lib.hid hml
      have Hpn : Hid (Lib.countB s ⟨#[46]⟩ + 1 = (piecesB 46 s).length) := countB_pieces 46 s
      have Hps : Hid (∀ p ∈ piecesB 46 s, p.size ≤ 63) := fun p hp => Nat.le_trans (piecesB_short 46 s p hp) h63
      have hpl : (piecesB 46 s).length ≤ 64 := by
        have := pieces_len 46 s.data.toList
        rw [piecesB, List.length_map]
        have e : s.data.toList.length = s.size := by rw [Array.length_toList]; rfl
        omega
      clear Hb hml
      go_enter Tryz.func186, Tryz.ntmps186
      go_wp2_with (go_at_call 223; refine (Tryz.strings_Split s ⟨#[46]⟩ ml _ hs Hml.out (Nat.le_refl 1)).mono ?_; rw [Hpn.out, split_pieces]; rintro e w' ⟨rfl, rfl⟩)
      generalize hn : (piecesB 46 s).length = n at *
      have Hn := Lib.hid hn
      have Hc : Hid (∀ k p, (piecesB 46 s)[k]? = some p → (w.alloc (.cells ((piecesB 46 s).map Value.string).toArray 9)).cell? ⟨w.heap.size, k, none⟩ = some (.string p)) := by
        intro k p hp
        rw [World.cell?_alloc_new]
        simp [hp]
      clear hn
      generalize hW : w.alloc (.cells ((piecesB 46 s).map Value.string).toArray 9) = W at *
      have HBW : Below w.heap.size w W := hW ▸ below_box w _
      clear hW
      go_loop [17] (fun i => ∃ k : Nat, k ≤ n ∧ i = .int .i64 k ∧ Hid (sh = ((piecesB 46 s).drop k).all pieceF)) (fun i => n - (intOf i).toNat)
      case atStart => exact ⟨0, Nat.zero_le _, rfl, Hb'⟩
      case round =>
        obtain ⟨k, hk, rfl, hd⟩ := hrel
        by_cases hlt : k < n
        · obtain ⟨p, hp⟩ : ∃ p, (piecesB 46 s)[k]? = some p := ⟨_, List.getElem?_eq_getElem (by have := Hn.out; omega)⟩
          have hcp := Hc.out k p hp
          have hpsz := Hps.out p (List.mem_of_getElem? hp)
          have Hst : Hid (sh = (pieceF p && ((piecesB 46 s).drop (k + 1)).all pieceF)) := by rw [hd.out, all_step hp]; rfl
          have Hpf : Hid (pieceF p = (decide (0 < p.size) && lowN (bt p 0) && lowN (bt p (p.size - 1)) && allFrom partN p 0)) := rfl
          have b0 := bt_at p 0
          have b1 := bt_at p (p.size - 1)
          have Ha : Hid (∀ k, k < p.size → allFrom partN p k = (partN (bt p k) && allFrom partN p (k + 1))) := allFrom_step partN p
          generalize pieceF p = pf at *
          generalize bt p 0 = x0 at *
          generalize bt p (p.size - 1) = x1 at *
          clear hd hp
          by_cases hp0 : 0 < p.size
          · have he1 : ¬ p.toList = [] := ne_empty hp0
            have he2 : p.toList.isEmpty = false := by simpa using he1
            have hs1 : ((p.size : Int) - 1) = ((p.size - 1 : Nat) : Int) := by omega
            by_cases hw0 : lowN x0 = true
            · by_cases hw1 : lowN x1 = true
              · have Hpf' : Hid (pf = allFrom partN p 0) := by unfold Hid; rw [Hpf.out]; simp [hp0, hw0, hw1]
                clear Hpf
                go_wp2_with (go_at_call 224; refine (low_c _ _).mono ?_; rintro e w' ⟨rfl, rfl⟩)
                go_loop [40] (fun i => ∃ m : Nat, m ≤ p.size ∧ i = .int .i64 m ∧ Hid (pf = allFrom partN p m)) (fun i => p.size - (intOf i).toNat)
                case atStart => exact ⟨0, Nat.zero_le _, rfl, Hpf'⟩
                case round =>
                  obtain ⟨m, hm, rfl, hd⟩ := hrel
                  by_cases hml : m < p.size
                  · have bm := bt_at p m
                    have Hst2 : Hid (pf = (partN (bt p m) && allFrom partN p (m + 1))) := by rw [hd.out, Ha.out m hml]; rfl
                    generalize bt p m = x at *
                    clear hd
                    by_cases hx : partN x = true
                    · have Hst3 : Hid (pf = allFrom partN p (m + 1)) := by rw [Hst2.out, hx]; rfl
                      clear Hst2
                      by_cases hlx : lowN x = true
                      · go_wp2_with (go_at_call 224; refine (low_c _ _).mono ?_; rintro e w' ⟨rfl, rfl⟩)
                        go_round
                        case rel => exact ⟨m + 1, by omega, by go_num, Hst3⟩
                        case measure => simp [intOf]; try omega
                      · have hlx' : lowN x = false := by simpa using hlx
                        have h45 : (x != 45) = false := by simpa [partN, hlx'] using hx
                        go_wp2_with (go_at_call 224; refine (low_c _ _).mono ?_; rintro e w' ⟨rfl, rfl⟩)
                        go_round
                        case rel => exact ⟨m + 1, by omega, by go_num, Hst3⟩
                        case measure => simp [intOf]; try omega
                    · have hx' : partN x = false := by simpa using hx
                      have hlx' : lowN x = false := by simp [partN] at hx'; exact hx'.1
                      have h45 : (x != 45) = true := by simp [partN] at hx'; simpa using hx'.2
                      have Hst3 : Hid (sh = false) := by rw [Hst.out, Hst2.out, hx']; rfl
                      clear Hst2 Hst
                      go_wp2_with (go_at_call 224; refine (low_c _ _).mono ?_; rintro e w' ⟨rfl, rfl⟩)
                      go_ret
                      exact ⟨ret_b Hst3.out.symm, HBW⟩
                  · have Hst3 : Hid (sh = ((piecesB 46 s).drop (k + 1)).all pieceF) := by rw [Hst.out, hd.out, allFrom_end _ _ _ hml]; rfl
                    clear hd Hst
                    go_wp2
                    go_round
                    case rel => exact ⟨k + 1, by omega, by go_num, Hst3⟩
                    case measure => simp [intOf]; try omega
              · have hw1' : lowN x1 = false := by simpa using hw1
                have Hst3 : Hid (sh = false) := by unfold Hid; rw [Hst.out, Hpf.out]; simp [hw1']
                clear Hst Hpf
                go_wp2_with (go_at_call 224; refine (low_c _ _).mono ?_; rintro e w' ⟨rfl, rfl⟩)
                go_ret
                exact ⟨ret_b Hst3.out.symm, HBW⟩
            · have hw0' : lowN x0 = false := by simpa using hw0
              have Hst3 : Hid (sh = false) := by unfold Hid; rw [Hst.out, Hpf.out]; simp [hw0']
              clear Hst Hpf
              go_wp2_with (go_at_call 224; refine (low_c _ _).mono ?_; rintro e w' ⟨rfl, rfl⟩)
              go_ret
              exact ⟨ret_b Hst3.out.symm, HBW⟩
          · have he1 : p.toList = [] := is_empty hp0
            have he2 : p.toList.isEmpty = true := by simpa using he1
            have Hst3 : Hid (sh = false) := by unfold Hid; rw [Hst.out, Hpf.out]; simp [hp0]
            clear Hst Hpf
            go_wp2
            go_ret
            exact ⟨ret_b Hst3.out.symm, HBW⟩
        · have Hst' : Hid (sh = true) := by rw [hd.out, List.drop_eq_nil_of_le (by have := Hn.out; omega)]; rfl
          clear hd
          go_wp2
          go_ret
          exact ⟨ret_b Hst'.out.symm, HBW⟩
    · have Hb' : Hid (sh = false) := by unfold Hid; rw [Hb.out]; simp [h63]
      clear Hb
      go_enter Tryz.func186, Tryz.ntmps186
      go_wp2
      go_ret
      exact ⟨ret_b Hb'.out.symm, Below.refl _ _⟩
  · have Hb' : Hid (sh = false) := by unfold Hid; rw [Hb.out]; simp [h1]
    clear Hb
    go_enter Tryz.func186, Tryz.ntmps186
    go_wp2
    go_ret
    exact ⟨ret_b Hb'.out.symm, Below.refl _ _⟩
end Go.Proofs.YtldnkeackphilaaGreatDoor
namespace Go.Proofs.YtldnkeackphilaaGreatDoor
open Go.RowKit

def numGo (s : ByteArray) (i : Nat) (n : Int) : Option Int :=
  if i < s.size then (if 48 ≤ bt s i ∧ bt s i ≤ 57 then numGo s (i + 1) (10 * n + (bt s i - 48)) else none) else some n
termination_by s.size - i
theorem numGo_end (s : ByteArray) (i : Nat) (n : Int) (h : ¬ i < s.size) : numGo s i n = some n := by unfold numGo; rw [if_neg h]
theorem numGo_bad (s : ByteArray) (i : Nat) (n : Int) (h : i < s.size) (h2 : ¬ (48 ≤ bt s i ∧ bt s i ≤ 57)) : numGo s i n = none := by unfold numGo; rw [if_pos h, if_neg h2]
theorem numGo_step (s : ByteArray) (i : Nat) (n : Int) (h : i < s.size) (h2 : 48 ≤ bt s i ∧ bt s i ≤ 57) : numGo s i n = numGo s (i + 1) (10 * n + (bt s i - 48)) := by
  conv => lhs; unfold numGo; rw [if_pos h, if_pos h2]
def dgF (s : ByteArray) : ByteArray := ⟨(Lib.trimPrefix s.data.toList [45]).toArray⟩
def intF (s : ByteArray) : Option Int :=
  if (dgF s).size < 1 ∨ 15 < (dgF s).size then none else
  match numGo (dgF s) 0 0 with
  | none => none
  | some n => if bt (dgF s) 0 = 48 ∧ s.toList ≠ [48] then none else some (if (dgF s).size < s.size then -n else n)
def numR (k : Nat) (n : Int) : Prop := 0 ≤ n ∧ n + 1 ≤ (10 : Int) ^ k
theorem numR_zero : numR 0 0 := ⟨by omega, by simp⟩
theorem numR_succ {k : Nat} {n c : Int} (h : numR k n) (h0 : 0 ≤ c) (h9 : c ≤ 9) : numR (k + 1) (10 * n + c) := by
  obtain ⟨h1, h2⟩ := h
  refine ⟨by omega, ?_⟩
  rw [Int.pow_succ]
  omega
theorem numR_le {k : Nat} {n : Int} (h : numR k n) (hk : k ≤ 15) : 0 ≤ n ∧ n ≤ 999999999999999 := by
  obtain ⟨h1, h2⟩ := h
  refine ⟨h1, ?_⟩
  have : (10 : Int) ^ k ≤ 10 ^ 15 := by
    have h3 : (10 : Nat) ^ k ≤ 10 ^ 15 := Nat.pow_le_pow_right (by omega) hk
    exact_mod_cast h3
  omega
theorem intF_range {s : ByteArray} {n : Int} (h : intF s = some n) : -999999999999999 ≤ n ∧ n ≤ 999999999999999 := by
  have hg : ∀ d k m x, (dgF s).size - k = d → k ≤ (dgF s).size → numR k m → numGo (dgF s) k m = some x → numR (dgF s).size x := by
    intro d
    induction d with
    | zero =>
      intro k m x hd hk hm hx
      rw [numGo_end _ _ _ (by omega)] at hx
      injection hx with hx
      subst hx
      obtain rfl : k = (dgF s).size := by omega
      exact hm
    | succ d ih =>
      intro k m x hd hk hm hx
      by_cases h2 : 48 ≤ bt (dgF s) k ∧ bt (dgF s) k ≤ 57
      · rw [numGo_step _ _ _ (by omega) h2] at hx
        exact ih (k + 1) _ x (by omega) (by omega) (numR_succ hm (by omega) (by omega)) hx
      · rw [numGo_bad _ _ _ (by omega) h2] at hx; cases hx
  unfold intF at h
  split at h
  · cases h
  · rename_i hs
    split at h
    · cases h
    · rename_i x hx
      have hr := numR_le (hg _ 0 0 x rfl (Nat.zero_le _) numR_zero hx) (by omega)
      split at h
      · cases h
      · injection h with h
        split at h <;> omega
def IntP (s : ByteArray) (e : Ending) : Prop := e = .returned (.tuple #[.int .i64 ((intF s).getD 0), .bool (intF s).isSome])

set_option maxHeartbeats 1000000 in
theorem int_c (s : ByteArray) (w : World) (hs : s.size ≤ 9223372036854775807) : Calls Tryz.prog 167 #[.string s] w fun e w' => IntP s e ∧ w' = w := by
  have ht : Hid (∀ W : World, Calls Tryz.prog 198 #[.string s, .string ⟨#[45]⟩] W fun e w' => e = .returned (.string (dgF s)) ∧ w' = W) := fun W => Tryz.strings_TrimPrefix s ⟨#[45]⟩ W
  have hF : Hid (∀ r, intF s = r → ∀ e, e = .returned (.tuple #[.int .i64 (r.getD 0), .bool r.isSome]) → IntP s e) := by rintro r rfl e rfl; rfl
  have hU : Hid (intF s = if (dgF s).size < 1 ∨ 15 < (dgF s).size then none else
    match numGo (dgF s) 0 0 with
    | none => none
    | some n => if bt (dgF s) 0 = 48 ∧ s.toList ≠ [48] then none else some (if (dgF s).size < s.size then -n else n)) := rfl
  generalize dgF s = d at *
  generalize intF s = r at *
  go_enter Tryz.func167, Tryz.ntmps167
  by_cases h1 : d.size < 1 ∨ 15 < d.size
  · have hr : Hid (r = none) := by unfold Hid; rw [hU.out, if_pos h1]
    clear hU
    have hh : (1 ≤ d.size ∧ 15 < d.size) ∨ d.size < 1 := by omega
    clear h1
    rcases hh with ⟨h1, h2⟩ | h1
    all_goals
      go_wp2_with (go_at_call 198; refine (ht.out _).mono ?_; rintro e w' ⟨rfl, rfl⟩)
      go_ret2
      exact ⟨hF.out none hr.out _ rfl, rfl⟩
  · have h2 : 1 ≤ d.size := by omega
    have h3 : d.size ≤ 15 := by omega
    have hr : Hid (r = match numGo d 0 0 with
      | none => none
      | some n => if bt d 0 = 48 ∧ s.toList ≠ [48] then none else some (if d.size < s.size then -n else n)) := by unfold Hid; rw [hU.out, if_neg h1]
    clear h1 hU
    go_wp2_with (go_at_call 198; refine (ht.out _).mono ?_; rintro e w' ⟨rfl, rfl⟩)
    go_loop [5, 19] (fun nv iv => ∃ (k : Nat) (n : Int), k ≤ d.size ∧ iv = .int .i64 k ∧ nv = .int .i64 n ∧ Hid (numR k n) ∧ Hid (numGo d 0 0 = numGo d k n)) (fun _ i => d.size - (intOf i).toNat)
    case atStart => exact ⟨0, 0, Nat.zero_le _, rfl, rfl, numR_zero, rfl⟩
    case round =>
      obtain ⟨k, n, hk, rfl, rfl, hn, hg⟩ := hrel
      obtain ⟨hn0, hn1⟩ := numR_le hn.out (by omega)
      by_cases hlt : k < d.size
      · have bk := bt_at d k
        have hb := bt_range d k
        by_cases hd : 48 ≤ bt d k ∧ bt d k ≤ 57
        · have HG : Hid (numGo d 0 0 = numGo d (k + 1) (10 * n + (bt d k - 48))) := by unfold Hid; rw [hg.out, numGo_step d k n hlt hd]
          have HN : Hid (numR (k + 1) (10 * n + (bt d k - 48))) := numR_succ hn.out (by omega) (by omega)
          generalize bt d k = x at *
          obtain ⟨hx1, hx2⟩ := hd
          obtain ⟨hb0, hb1⟩ := hb
          clear hg hn
          go_wp2
          go_round
          case rel => exact ⟨k + 1, _, by omega, by go_num, rfl, HN, HG⟩
          case measure => simp [intOf]; try omega
        · have hr2 : Hid (r = none) := by unfold Hid; rw [hr.out, hg.out, numGo_bad d k n hlt hd]
          generalize bt d k = x at *
          obtain ⟨hb0, hb1⟩ := hb
          have hh : (48 ≤ x ∧ 57 < x) ∨ x < 48 := by omega
          clear hd hg hn hr
          rcases hh with ⟨hx1, hx2⟩ | hx1
          all_goals
            go_wp2
            go_ret2
            exact ⟨hF.out none hr2.out _ rfl, rfl⟩
      · have hr2 : Hid (r = if bt d 0 = 48 ∧ s.toList ≠ [48] then none else some (if d.size < s.size then -n else n)) := by unfold Hid; rw [hr.out, hg.out, numGo_end d k n hlt]
        have b0 := bt_at d 0
        generalize bt d 0 = x0 at *
        clear hg hn hr
        by_cases hx : x0 = 48
        · subst hx
          by_cases hs0 : s.toList = [48]
          · have hr3 : Hid (r = some (if d.size < s.size then -n else n)) := by unfold Hid; rw [hr2.out, if_neg (by simp [hs0])]
            clear hr2
            by_cases hm : d.size < s.size
            · have hr4 : Hid (r = some (-n)) := by unfold Hid; rw [hr3.out, if_pos hm]
              clear hr3
              go_wp2
              go_ret2
              exact ⟨hF.out _ hr4.out _ rfl, rfl⟩
            · have hr4 : Hid (r = some n) := by unfold Hid; rw [hr3.out, if_neg hm]
              clear hr3
              go_wp2
              go_ret2
              exact ⟨hF.out _ hr4.out _ rfl, rfl⟩
          · have hr3 : Hid (r = none) := by unfold Hid; rw [hr2.out, if_pos ⟨rfl, hs0⟩]
            have hs0' : (!s.toList == [48]) = true := by simp [hs0]
            clear hr2
            go_wp2
            go_ret2
            exact ⟨hF.out _ hr3.out _ rfl, rfl⟩
        · have hr3 : Hid (r = some (if d.size < s.size then -n else n)) := by unfold Hid; rw [hr2.out, if_neg (fun h => hx h.1)]
          have hx' : (x0 == 48) = false := by simpa using hx
          clear hr2 hx
          by_cases hm : d.size < s.size
          · have hr4 : Hid (r = some (-n)) := by unfold Hid; rw [hr3.out, if_pos hm]
            clear hr3
            go_wp2
            go_ret2
            exact ⟨hF.out _ hr4.out _ rfl, rfl⟩
          · have hr4 : Hid (r = some n) := by unfold Hid; rw [hr3.out, if_neg hm]
            clear hr3
            go_wp2
            go_ret2
            exact ⟨hF.out _ hr4.out _ rfl, rfl⟩
end Go.Proofs.YtldnkeackphilaaGreatDoor
namespace Go.Proofs
open Go.Shelf
def Tryz.lays189_ren : Go.Shelf.Ren := ⟨fun | 189 => 105 | 125 => 169 | 257 => 168 | 128 => 208 | 129 => 209 | 294 => 199 | 295 => 200 | 296 => 201 | 297 => 202 | 298 => 203 | 299 => 204 | 216 => 205 | 300 => 206 | 301 => 207 | 328 => 232 | 329 => 233 | 330 => 234 | 331 => 235 | 332 => 236 | 215 => 237 | 343 => 246 | n => n, fun | 28 => 31 | 3 => 3 | 46 => 277 | 0 => 0 | 51 => 336 | 53 => 338 | 4 => 4 | 183 => 330 | 182 => 329 | 131 => 261 | 5 => 5 | 9 => 9 | 218 => 354 | 222 => 358 | 228 => 364 | 229 => 67 | n => n, fun | n => n⟩
theorem Tryz.lays189 : Go.Proofs.Lays.n189 Tryz.prog Tryz.lays189_ren := {
  mixed := by kernel_rfl
  f125 := Tryz.func169.trans (congrArg some (by kernel_rfl))
  f128 := Tryz.func208.trans (congrArg some (by kernel_rfl))
  f129 := Tryz.func209.trans (congrArg some (by kernel_rfl))
  f189 := Tryz.func105.trans (congrArg some (by kernel_rfl))
  f215 := Tryz.func237.trans (congrArg some (by kernel_rfl))
  f216 := Tryz.func205.trans (congrArg some (by kernel_rfl))
  f257 := Tryz.func168.trans (congrArg some (by kernel_rfl))
  f294 := Tryz.func199.trans (congrArg some (by kernel_rfl))
  f295 := Tryz.func200.trans (congrArg some (by kernel_rfl))
  f296 := Tryz.func201.trans (congrArg some (by kernel_rfl))
  f297 := Tryz.func202.trans (congrArg some (by kernel_rfl))
  f298 := Tryz.func203.trans (congrArg some (by kernel_rfl))
  f299 := Tryz.func204.trans (congrArg some (by kernel_rfl))
  f300 := Tryz.func206.trans (congrArg some (by kernel_rfl))
  f301 := Tryz.func207.trans (congrArg some (by kernel_rfl))
  f328 := Tryz.func232.trans (congrArg some (by kernel_rfl))
  f329 := Tryz.func233.trans (congrArg some (by kernel_rfl))
  f330 := Tryz.func234.trans (congrArg some (by kernel_rfl))
  f331 := Tryz.func235.trans (congrArg some (by kernel_rfl))
  f332 := Tryz.func236.trans (congrArg some (by kernel_rfl))
  f343 := Tryz.func246.trans (congrArg some (by kernel_rfl))
  t0 := Tryz.underlying0
  a0 := Tryz.isAgg0
  z0 := Tryz.sizeOf0
  v0 := Tryz.zeroValue0
  t3 := Tryz.underlying3
  a3 := Tryz.isAgg3
  z3 := Tryz.sizeOf3
  v3 := Tryz.zeroValue3
  t4 := Tryz.underlying4
  a4 := Tryz.isAgg4
  z4 := Tryz.sizeOf4
  v4 := Tryz.zeroValue4
  t5 := Tryz.underlying5
  a5 := Tryz.isAgg5
  z5 := Tryz.sizeOf5
  v5 := Tryz.zeroValue5
  t9 := Tryz.underlying9
  a9 := Tryz.isAgg9
  z9 := Tryz.sizeOf9
  v9 := Tryz.zeroValue9
  t28 := Tryz.underlying31
  a28 := Tryz.isAgg31
  z28 := Tryz.sizeOf31
  v28 := Tryz.zeroValue31
  t46 := Tryz.underlying277
  a46 := Tryz.isAgg277
  z46 := Tryz.sizeOf277
  v46 := Tryz.zeroValue277
  t51 := Tryz.underlying336
  a51 := Tryz.isAgg336
  z51 := Tryz.sizeOf336
  v51 := Tryz.zeroValue336
  t53 := Tryz.underlying338
  a53 := Tryz.isAgg338
  z53 := Tryz.sizeOf338
  v53 := Tryz.zeroValue338
  t131 := Tryz.underlying261
  a131 := Tryz.isAgg261
  z131 := Tryz.sizeOf261
  v131 := Tryz.zeroValue261
  t182 := Tryz.underlying329
  a182 := Tryz.isAgg329
  z182 := Tryz.sizeOf329
  v182 := Tryz.zeroValue329
  t183 := Tryz.underlying330
  a183 := Tryz.isAgg330
  z183 := Tryz.sizeOf330
  v183 := Tryz.zeroValue330
  t218 := Tryz.underlying354
  a218 := Tryz.isAgg354
  z218 := Tryz.sizeOf354
  v218 := Tryz.zeroValue354
  t222 := Tryz.underlying358
  a222 := Tryz.isAgg358
  z222 := Tryz.sizeOf358
  v222 := Tryz.zeroValue358
  t228 := Tryz.underlying364
  a228 := Tryz.isAgg364
  z228 := Tryz.sizeOf364
  v228 := Tryz.zeroValue364
  t229 := Tryz.underlying67
  a229 := Tryz.isAgg67
  z229 := Tryz.sizeOf67
  v229 := Tryz.zeroValue67 }
open Go.Sort Go.RowKit in
theorem Tryz.slices_Sort_int (blk off cap : Nat) (zs : List Int) (w : World) (hH : Holds (Value.int .i64) w blk off zs.toArray) (hblk : blk < w.heap.size) (hsz : zs.length < 4611686018427387904) :
    Calls Tryz.prog 105 #[.slice (some ⟨blk, off, none⟩) zs.length cap] w fun e w' =>
      e = .returned (.tuple #[]) ∧ ∃ n os, w' = grow (putRow (Value.int .i64) (Sort.ahead w n) blk off (zs.mergeSort fun x y => decide (x ≤ y)).toArray) os := Any.slices_Sort_int Tryz.lays189 blk off cap zs w hH hblk hsz
def Tryz.lays190_ren : Go.Shelf.Ren := ⟨fun | 190 => 106 | 125 => 169 | 258 => 170 | 128 => 208 | 129 => 209 | 302 => 210 | 303 => 211 | 304 => 212 | 305 => 213 | 306 => 214 | 307 => 215 | 308 => 216 | 309 => 217 | 310 => 218 | 333 => 238 | 329 => 233 | 330 => 234 | 334 => 239 | 335 => 240 | 336 => 241 | 344 => 247 | n => n, fun | 31 => 59 | 9 => 9 | 3 => 3 | 46 => 277 | 0 => 0 | 51 => 336 | 53 => 338 | 4 => 4 | 183 => 330 | 182 => 329 | 131 => 261 | 5 => 5 | 218 => 354 | 222 => 358 | 228 => 364 | 229 => 67 | n => n, fun | n => n⟩
theorem Tryz.lays190 : Go.Proofs.Lays.n190 Tryz.prog Tryz.lays190_ren := {
  mixed := by kernel_rfl
  f125 := Tryz.func169.trans (congrArg some (by kernel_rfl))
  f128 := Tryz.func208.trans (congrArg some (by kernel_rfl))
  f129 := Tryz.func209.trans (congrArg some (by kernel_rfl))
  f190 := Tryz.func106.trans (congrArg some (by kernel_rfl))
  f258 := Tryz.func170.trans (congrArg some (by kernel_rfl))
  f302 := Tryz.func210.trans (congrArg some (by kernel_rfl))
  f303 := Tryz.func211.trans (congrArg some (by kernel_rfl))
  f304 := Tryz.func212.trans (congrArg some (by kernel_rfl))
  f305 := Tryz.func213.trans (congrArg some (by kernel_rfl))
  f306 := Tryz.func214.trans (congrArg some (by kernel_rfl))
  f307 := Tryz.func215.trans (congrArg some (by kernel_rfl))
  f308 := Tryz.func216.trans (congrArg some (by kernel_rfl))
  f309 := Tryz.func217.trans (congrArg some (by kernel_rfl))
  f310 := Tryz.func218.trans (congrArg some (by kernel_rfl))
  f329 := Tryz.func233.trans (congrArg some (by kernel_rfl))
  f330 := Tryz.func234.trans (congrArg some (by kernel_rfl))
  f333 := Tryz.func238.trans (congrArg some (by kernel_rfl))
  f334 := Tryz.func239.trans (congrArg some (by kernel_rfl))
  f335 := Tryz.func240.trans (congrArg some (by kernel_rfl))
  f336 := Tryz.func241.trans (congrArg some (by kernel_rfl))
  f344 := Tryz.func247.trans (congrArg some (by kernel_rfl))
  t0 := Tryz.underlying0
  a0 := Tryz.isAgg0
  z0 := Tryz.sizeOf0
  v0 := Tryz.zeroValue0
  t3 := Tryz.underlying3
  a3 := Tryz.isAgg3
  z3 := Tryz.sizeOf3
  v3 := Tryz.zeroValue3
  t4 := Tryz.underlying4
  a4 := Tryz.isAgg4
  z4 := Tryz.sizeOf4
  v4 := Tryz.zeroValue4
  t5 := Tryz.underlying5
  a5 := Tryz.isAgg5
  z5 := Tryz.sizeOf5
  v5 := Tryz.zeroValue5
  t9 := Tryz.underlying9
  a9 := Tryz.isAgg9
  z9 := Tryz.sizeOf9
  v9 := Tryz.zeroValue9
  t31 := Tryz.underlying59
  a31 := Tryz.isAgg59
  z31 := Tryz.sizeOf59
  v31 := Tryz.zeroValue59
  t46 := Tryz.underlying277
  a46 := Tryz.isAgg277
  z46 := Tryz.sizeOf277
  v46 := Tryz.zeroValue277
  t51 := Tryz.underlying336
  a51 := Tryz.isAgg336
  z51 := Tryz.sizeOf336
  v51 := Tryz.zeroValue336
  t53 := Tryz.underlying338
  a53 := Tryz.isAgg338
  z53 := Tryz.sizeOf338
  v53 := Tryz.zeroValue338
  t131 := Tryz.underlying261
  a131 := Tryz.isAgg261
  z131 := Tryz.sizeOf261
  v131 := Tryz.zeroValue261
  t182 := Tryz.underlying329
  a182 := Tryz.isAgg329
  z182 := Tryz.sizeOf329
  v182 := Tryz.zeroValue329
  t183 := Tryz.underlying330
  a183 := Tryz.isAgg330
  z183 := Tryz.sizeOf330
  v183 := Tryz.zeroValue330
  t218 := Tryz.underlying354
  a218 := Tryz.isAgg354
  z218 := Tryz.sizeOf354
  v218 := Tryz.zeroValue354
  t222 := Tryz.underlying358
  a222 := Tryz.isAgg358
  z222 := Tryz.sizeOf358
  v222 := Tryz.zeroValue358
  t228 := Tryz.underlying364
  a228 := Tryz.isAgg364
  z228 := Tryz.sizeOf364
  v228 := Tryz.zeroValue364
  t229 := Tryz.underlying67
  a229 := Tryz.isAgg67
  z229 := Tryz.sizeOf67
  v229 := Tryz.zeroValue67 }
open Go.Sort Go.RowKit in
theorem Tryz.slices_Sort_string (blk off cap : Nat) (ss : List (List UInt8)) (w : World) (hH : Holds encStr w blk off ss.toArray) (hblk : blk < w.heap.size) (hsz : ss.length < 4611686018427387904) :
    Calls Tryz.prog 106 #[.slice (some ⟨blk, off, none⟩) ss.length cap] w fun e w' =>
      e = .returned (.tuple #[]) ∧ ∃ n os, w' = grow (putRow encStr (Sort.ahead w n) blk off (ss.mergeSort fun x y => decide (x ≤ y)).toArray) os := Any.slices_Sort_string Tryz.lays190 blk off cap ss w hH hblk hsz
def Tryz.laysNm220_ren : Go.Shelf.Ren := ⟨fun | 20 => 107 | n => n, fun | 22 => 31 | 3 => 3 | 4 => 4 | 0 => 0 | n => n, fun | n => n⟩
theorem Tryz.laysNm220 : Go.Proofs.Lays2.n20 Tryz.prog Tryz.laysNm220_ren := {
  mixed := by kernel_rfl
  f20 := Tryz.func107.trans (congrArg some (by kernel_rfl))
  t0 := Tryz.underlying0
  a0 := Tryz.isAgg0
  z0 := Tryz.sizeOf0
  v0 := Tryz.zeroValue0
  t3 := Tryz.underlying3
  a3 := Tryz.isAgg3
  z3 := Tryz.sizeOf3
  v3 := Tryz.zeroValue3
  t4 := Tryz.underlying4
  a4 := Tryz.isAgg4
  z4 := Tryz.sizeOf4
  v4 := Tryz.zeroValue4
  t22 := Tryz.underlying31
  a22 := Tryz.isAgg31
  z22 := Tryz.sizeOf31
  v22 := Tryz.zeroValue31
  i3 := by kernel_rfl }
open Go.RowKit Go.Lib Go.Sort in
theorem Tryz.slices_Compact_int (blk off cap : Nat) (zs : List Int) (w : World) (hH : Holds (Value.int .i64) w blk off zs.toArray) (hsz : zs.length ≤ 9223372036854775807) (hcap : zs.length ≤ cap) :
    Calls Tryz.prog 107 #[.slice (some ⟨blk, off, none⟩) zs.length cap] w fun e w' => e = .returned (.slice (some ⟨blk, off, none⟩) (Lib.compact zs).length cap) ∧ ∃ q, w' = putRow (Value.int .i64) (Sort.ahead w q) blk off (Lib.compact zs ++ List.replicate (zs.length - (Lib.compact zs).length) 0).toArray := Any.slices_Compact_int Tryz.laysNm220 blk off cap zs w hH hsz hcap
open Go.RowKit Go.Lib Go.Sort in
theorem Tryz.slices_Compact_int_empty (a : Option Addr) (cap : Nat) (w : World) :
    Calls Tryz.prog 107 #[.slice a 0 cap] w fun e w' => e = .returned (.slice a 0 cap) ∧ w' = w := Any.slices_Compact_int_empty Tryz.laysNm220 a cap w
def Tryz.lays194_ren : Go.Shelf.Ren := ⟨fun | 194 => 108 | n => n, fun | 31 => 59 | 9 => 9 | 3 => 3 | 4 => 4 | 0 => 0 | n => n, fun | n => n⟩
theorem Tryz.lays194 : Go.Proofs.Lays.n194 Tryz.prog Tryz.lays194_ren := {
  mixed := by kernel_rfl
  f194 := Tryz.func108.trans (congrArg some (by kernel_rfl))
  t0 := Tryz.underlying0
  a0 := Tryz.isAgg0
  z0 := Tryz.sizeOf0
  v0 := Tryz.zeroValue0
  t3 := Tryz.underlying3
  a3 := Tryz.isAgg3
  z3 := Tryz.sizeOf3
  v3 := Tryz.zeroValue3
  t4 := Tryz.underlying4
  a4 := Tryz.isAgg4
  z4 := Tryz.sizeOf4
  v4 := Tryz.zeroValue4
  t9 := Tryz.underlying9
  a9 := Tryz.isAgg9
  z9 := Tryz.sizeOf9
  v9 := Tryz.zeroValue9
  t31 := Tryz.underlying59
  a31 := Tryz.isAgg59
  z31 := Tryz.sizeOf59
  v31 := Tryz.zeroValue59 }
open Go.RowKit Go.Lib Go.Sort in
theorem Tryz.slices_Compact_string (blk off cap : Nat) (zs : List (List UInt8)) (w : World) (hH : Holds encStr w blk off zs.toArray) (hsz : zs.length ≤ 9223372036854775807) (hcap : zs.length ≤ cap) :
    Calls Tryz.prog 108 #[.slice (some ⟨blk, off, none⟩) zs.length cap] w fun e w' => e = .returned (.slice (some ⟨blk, off, none⟩) (Lib.compact zs).length cap) ∧ ∃ q, w' = putRow encStr (Sort.ahead w q) blk off (Lib.compact zs ++ List.replicate (zs.length - (Lib.compact zs).length) []).toArray := Any.slices_Compact_string Tryz.lays194 blk off cap zs w hH hsz hcap
open Go.RowKit Go.Lib Go.Sort in
theorem Tryz.slices_Compact_string_empty (a : Option Addr) (cap : Nat) (w : World) :
    Calls Tryz.prog 108 #[.slice a 0 cap] w fun e w' => e = .returned (.slice a 0 cap) ∧ w' = w := Any.slices_Compact_string_empty Tryz.lays194 a cap w
open Go.RowKit Go.Sort in
theorem Tryz.slices_Sort_string_none (p : Option Addr) (cap : Nat) (w : World) :
    Calls Tryz.prog 106 #[.slice p 0 cap] w fun e w' => e = .returned (.tuple #[]) ∧ w' = w := Any.slices_Sort_string_none Tryz.lays190 p cap w
open Go.RowKit Go.Sort in
theorem Tryz.slices_Sort_int_none (p : Option Addr) (cap : Nat) (w : World) :
    Calls Tryz.prog 105 #[.slice p 0 cap] w fun e w' => e = .returned (.tuple #[]) ∧ w' = w := Any.slices_Sort_int_none Tryz.lays189 p cap w
end Go.Proofs
namespace Go.Proofs.YtldnkeackphilaaGreatDoor
open Go.RowKit Go.Sort

theorem own_put {α : Type} [Inhabited α] {f : α → Value} {E : TypeId} {w : World} {B g cap q : Nat} {os : Array Obj} {xs d : List α} (h : OwnF f E w B (.slice (some ⟨g, 0, none⟩) xs.length cap) xs) (hl : d.length = xs.length) (k : Nat) (hk : k ≤ d.length) :
    OwnF f E (grow (putRow f (Sort.ahead w q) g 0 d.toArray) os) B (.slice (some ⟨g, 0, none⟩) k cap) (d.take k) ∧ w.grownBy (grow (putRow f (Sort.ahead w q) g 0 d.toArray) os) (some g) := by
  rcases h.2 with ⟨h', _⟩ | ⟨g', cap', cur, h', hb, hh, h1, h2, h3, h4⟩
  · cases h'
  · cases h'
    have hg : g < w.heap.size := (Array.getElem?_eq_some_iff.1 hh).1
    have hlt : (d.take k).length = k := by simp; omega
    refine ⟨⟨by simp, .inr ⟨g, cap, putCells f 0 d.toArray cur, by rw [hlt], hb, ?_, by omega, h2, by simp [putCells, h3], ?_⟩⟩, ⟨rfl, rfl, rfl, by simp, fun k hk hne => ?_⟩⟩
    · rw [heap_grow_old _ _ (by simpa using hg)]
      simp [putRow, mapBlock, Sort.ahead, Array.getElem?_modify, hh, onCells]
    · rw [hlt, Nat.mul_one]
      apply List.ext_getElem?
      intro j
      by_cases hj : j < k
      · rw [List.getElem?_take_of_lt hj, Array.getElem?_toList]
        have hjd : j < d.length := by omega
        simp [putCells, hj, hjd, show j < cur.size by omega, List.getElem?_take_of_lt]
      · rw [List.getElem?_take_eq_none (by omega), List.getElem?_eq_none (by simp; omega)]
    · rw [heap_grow_old _ _ (by simpa using hk)]
      have : g ≠ k := fun e => hne (by rw [e])
      simp [putRow, mapBlock, Sort.ahead, Array.getElem?_modify, this]
theorem own_holds {α : Type} [Inhabited α] {f : α → Value} {E : TypeId} {w : World} {B g cap : Nat} {xs : List α} (h : OwnF f E w B (.slice (some ⟨g, 0, none⟩) xs.length cap) xs) : Holds f w g 0 xs.toArray := by
  intro j hj
  have hj' : j < xs.length := by simpa using hj
  refine ⟨?_, by simpa using h.free j⟩
  obtain ⟨g', he, _, _, hc⟩ := h.form' (by omega)
  obtain rfl : g = g' := by simpa using he
  have := hc j xs[j] (List.getElem?_eq_getElem hj')
  simpa [hj'] using this
theorem compact_le {α : Type} [Inhabited α] [DecidableEq α] (xs : List α) : (Lib.compact xs).length ≤ xs.length := by
  have := List.length_filter_le (Lib.keeps xs.toArray) (List.range xs.length)
  simpa [Lib.compact, Lib.compactUpTo] using this
theorem grow_none (X : World) : grow X #[] = X := by simp [grow]
theorem own_cases {α : Type} {f : α → Value} {E : TypeId} {w : World} {B : Nat} {v : Value} {xs : List α} (h : OwnF f E w B v xs) : (v = .slice none 0 0 ∧ xs = []) ∨ ∃ g cap, v = .slice (some ⟨g, 0, none⟩) xs.length cap ∧ g < w.heap.size ∧ xs.length ≤ cap ∧ cap ≤ 9223372036854775807 := by
  rcases h.2 with ⟨h', h0⟩ | ⟨g, cap, cur, h', hb, hh, h1, h2, h3, h4⟩
  · exact .inl ⟨h', List.eq_nil_of_length_eq_zero h0⟩
  · simp only [maxLen] at h2
    exact .inr ⟨g, cap, h', (Array.getElem?_eq_some_iff.1 hh).1, h1, h2⟩
def sortedI (xs : List Int) : List Int := xs.mergeSort fun x y => decide (x ≤ y)
theorem sortI_c (w : World) (B : Nat) (v : Value) (xs : List Int) (h : OwnInts w B v xs) (hl : xs.length < 4611686018427387904) : Calls Tryz.prog 105 #[v] w fun e w' =>
    e = .returned (.tuple #[]) ∧ OwnInts w' B v (sortedI xs) ∧ w.grownBy w' v.ownBlock := by
  rcases own_cases h with ⟨rfl, rfl⟩ | ⟨g, cap, rfl, hg, h1, h2⟩
  · refine (Tryz.slices_Sort_int_none none 0 w).mono ?_
    rintro e w' ⟨rfl, rfl⟩
    exact ⟨rfl, by simpa [sortedI] using h, World.grownBy.refl _ _⟩
  · refine (Tryz.slices_Sort_int g 0 cap xs w (own_holds h) hg hl).mono ?_
    rintro e w' ⟨rfl, n, os, rfl⟩
    have hh := own_put (q := n) (os := os) (d := sortedI xs) h (by simp [sortedI]) xs.length (by simp [sortedI])
    rw [List.take_of_length_le (by simp [sortedI])] at hh
    exact ⟨rfl, hh.1, hh.2⟩
def bytesL (xs : List ByteArray) : List (List UInt8) := xs.map (·.data.toList)
def textsL (xs : List (List UInt8)) : List ByteArray := xs.map fun l => ⟨l.toArray⟩
theorem enc_bytes (xs : List ByteArray) : (bytesL xs).map encStr = xs.map Value.string := by simp [bytesL, encStr]
theorem enc_texts (xs : List (List UInt8)) : (textsL xs).map Value.string = xs.map encStr := by simp [textsL, encStr]
theorem own_bytes {w : World} {B : Nat} {v : Value} {xs : List ByteArray} (h : OwnStrs w B v xs) : OwnF encStr 9 w B v (bytesL xs) := by
  unfold OwnF
  rw [enc_bytes, show (bytesL xs).length = xs.length from by simp [bytesL]]
  exact h
theorem own_texts {w : World} {B : Nat} {v : Value} {xs : List (List UInt8)} (h : OwnF encStr 9 w B v xs) : OwnStrs w B v (textsL xs) := by
  unfold OwnStrs OwnF
  rw [enc_texts, show (textsL xs).length = xs.length from by simp [textsL]]
  exact h
def sortedS (xs : List ByteArray) : List ByteArray := textsL ((bytesL xs).mergeSort fun x y => decide (x ≤ y))
def compactS (xs : List ByteArray) : List ByteArray := textsL (Lib.compact (bytesL xs))
theorem sortS_c (w : World) (B : Nat) (v : Value) (xs : List ByteArray) (h : OwnStrs w B v xs) (hl : xs.length < 4611686018427387904) : Calls Tryz.prog 106 #[v] w fun e w' =>
    e = .returned (.tuple #[]) ∧ OwnStrs w' B v (sortedS xs) ∧ w.grownBy w' v.ownBlock := by
  have hb := own_bytes h
  have hbl : (bytesL xs).length = xs.length := by simp [bytesL]
  rcases own_cases hb with ⟨rfl, h0⟩ | ⟨g, cap, rfl, hg, h1, h2⟩
  · obtain rfl : xs = [] := by simpa [bytesL] using h0
    refine (Tryz.slices_Sort_string_none none 0 w).mono ?_
    rintro e w' ⟨rfl, rfl⟩
    exact ⟨rfl, by simpa [sortedS, bytesL, textsL] using h, World.grownBy.refl _ _⟩
  · refine (Tryz.slices_Sort_string g 0 cap (bytesL xs) w (own_holds hb) hg (by omega)).mono ?_
    rintro e w' ⟨rfl, n, os, rfl⟩
    have hh := own_put (q := n) (os := os) (d := (bytesL xs).mergeSort fun x y => decide (x ≤ y)) hb (by simp) (bytesL xs).length (by simp)
    rw [List.take_of_length_le (by simp)] at hh
    exact ⟨rfl, own_texts hh.1, hh.2⟩
end Go.Proofs.YtldnkeackphilaaGreatDoor
