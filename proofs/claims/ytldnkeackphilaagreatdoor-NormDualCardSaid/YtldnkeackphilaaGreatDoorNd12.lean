/- show.shape: the first fault but that of the nest. -/
import Derived.Test.YtldnkeackphilaaGreatDoorNd11
set_option linter.unusedSimpArgs false
set_option linter.unusedVariables false
namespace Go.Proofs.YtldnkeackphilaaGreatDoor
open Go.RowKit

def kindAt (ps : List Part) (k : Int) : Int := (ps[k.toNat]?.map Part.kind).getD 0
def partOk (ps : List Part) (free : List Int) (p : Part) : Bool :=
  partFitsF p && decide (p.kids.length ≤ free.length) && decide (p.kids = free.drop (free.length - p.kids.length)) && p.kids.all fun k => kidFitsF p.kind (kindAt ps k)
def shapeGo (ps : List Part) : List Part → Nat → List Int → Nat ⊕ List Int
  | [], _, free => .inr free
  | p :: r, i, free => if partOk ps free p then shapeGo ps r (i + 1) (free.take (free.length - p.kids.length) ++ [(i : Int)]) else .inl i
def shapeF (ps : List Part) : Option Int :=
  if ps.length = 0 then some 0 else if 1000 < ps.length then some 1000 else
  match shapeGo ps ps 0 [] with
  | .inl i => some i
  | .inr free => if isCondF (kindAt ps (ps.length - 1 : Nat)) && decide (free.length = 1) then none else some (ps.length - 1 : Nat)

def flt (c : Int) (r : Option Int) : Option (Int × Int) := r.map fun x => (c, x)
theorem kindAt_nat (ps : List Part) (k : Nat) (p : Part) (h : ps[k]? = some p) : kindAt ps k = p.kind := by simp [kindAt, h]

theorem shapeGo_bad {ps : List Part} {k : Nat} {p : Part} {free : List Int} (h : ps[k]? = some p) (hb : partOk ps free p = false) : shapeGo ps (ps.drop k) k free = .inl k := by
  obtain ⟨hk, rfl⟩ := List.getElem?_eq_some_iff.1 h
  rw [List.drop_eq_getElem_cons hk, shapeGo, hb]; rfl
theorem shapeGo_good {ps : List Part} {k : Nat} {p : Part} {free : List Int} (h : ps[k]? = some p) (hb : partOk ps free p = true) : shapeGo ps (ps.drop k) k free = shapeGo ps (ps.drop (k + 1)) (k + 1) (free.take (free.length - p.kids.length) ++ [(k : Int)]) := by
  obtain ⟨hk, rfl⟩ := List.getElem?_eq_some_iff.1 h
  rw [List.drop_eq_getElem_cons hk, shapeGo, hb]; rfl
theorem shapeF_inl {ps : List Part} {k : Nat} {p : Part} {free : List Int} (h0 : ¬ ps.length = 0) (h1 : ¬ 1000 < ps.length) (hg : shapeGo ps ps 0 [] = shapeGo ps (ps.drop k) k free) (h : ps[k]? = some p) (hb : partOk ps free p = false) : flt 130 (shapeF ps) = some (130, (k : Int)) := by
  rw [shapeGo_bad h hb] at hg
  simp [flt, shapeF, h0, h1, hg]
theorem partOk_fits {ps : List Part} {free : List Int} {p : Part} (h : partFitsF p = false) : partOk ps free p = false := by simp [partOk, h]
theorem partOk_few {ps : List Part} {free : List Int} {p : Part} (h : ¬ p.kids.length ≤ free.length) : partOk ps free p = false := by simp [partOk, h]
theorem partOk_kid {ps : List Part} {free : List Int} {p : Part} {j : Nat} {x y : Int} (hx : p.kids[j]? = some x) (hy : free[free.length - p.kids.length + j]? = some y) (h : x ≠ y) : partOk ps free p = false := by
  have : ¬ p.kids = free.drop (free.length - p.kids.length) := by
    intro e
    apply h
    have h2 := congrArg (fun l : List Int => l[j]?) e
    simp only [List.getElem?_drop, hx, hy] at h2
    exact Option.some.inj h2
  simp [partOk, this]
theorem partOk_kind {ps : List Part} {free : List Int} {p : Part} {j : Nat} {x : Int} (hx : p.kids[j]? = some x) (h : kidFitsF p.kind (kindAt ps x) = false) : partOk ps free p = false := by
  have : (p.kids.all fun k => kidFitsF p.kind (kindAt ps k)) = false := by
    rw [List.all_eq_false]
    exact ⟨x, List.mem_of_getElem? hx, by simpa using h⟩
  simp [partOk, this]
def kidsUpto (ps : List Part) (free : List Int) (p : Part) (m : Nat) : Prop := ∀ j, j < m → ∃ x, p.kids[j]? = some x ∧ free[free.length - p.kids.length + j]? = some x ∧ kidFitsF p.kind (kindAt ps x) = true
theorem kidsUpto_succ {ps : List Part} {free : List Int} {p : Part} {m : Nat} {x : Int} (h : kidsUpto ps free p m) (hx : p.kids[m]? = some x) (hy : free[free.length - p.kids.length + m]? = some x) (hf : kidFitsF p.kind (kindAt ps x) = true) : kidsUpto ps free p (m + 1) := by
  intro j hj
  rcases Nat.lt_or_eq_of_le (Nat.le_of_lt_succ hj) with h1 | rfl
  · exact h j h1
  · exact ⟨x, hx, hy, hf⟩
theorem partOk_all {ps : List Part} {free : List Int} {p : Part} (h1 : partFitsF p = true) (h2 : p.kids.length ≤ free.length) (h3 : kidsUpto ps free p p.kids.length) : partOk ps free p = true := by
  have e : p.kids = free.drop (free.length - p.kids.length) := by
    apply List.ext_getElem?
    intro j
    rw [List.getElem?_drop]
    rcases Nat.lt_or_ge j p.kids.length with hj | hj
    · obtain ⟨x, hx, hy, _⟩ := h3 j hj
      rw [hx, hy]
    · rw [List.getElem?_eq_none hj, List.getElem?_eq_none (by omega)]
  have e2 : (p.kids.all fun k => kidFitsF p.kind (kindAt ps k)) = true := by
    rw [List.all_eq_true]
    intro x hx
    obtain ⟨j, hj, rfl⟩ := List.mem_iff_getElem.1 hx
    obtain ⟨x, hx, _, hf⟩ := h3 j hj
    rw [List.getElem?_eq_getElem hj] at hx
    injection hx with hx
    rw [hx]
    exact hf
  simp only [partOk, h1, h2, e2, decide_true, Bool.and_true, Bool.true_and, decide_eq_true_eq]
  exact e

theorem Tryz.info_int : (Tryz.prog.info? 3).map (fun i => (i.zero, i.size, i.bytes)) = some (some (.int .i64 0), 1, 8) := by kernel_rfl
theorem Tryz.info_int' : (Tryz.prog.info? 3).isSome = true := by kernel_rfl
set_option maxHeartbeats 4000000 in
set_option maxRecDepth 100000 in
theorem shape_c (ps : List Part) (v : Value) (w : World) (hp : PartsV w v ps) : Calls Tryz.prog 79 #[v] w (ErrP w (flt 130 (shapeF ps))) := by
  obtain ⟨A, c, rfl, hlen, hps⟩ := hp
  by_cases h0 : ps.length = 0
  · have hfin : Hid (flt 130 (shapeF ps) = some (130, 0)) := by unfold Hid; simp [flt, shapeF, h0]
    have h0' : ((ps.length : Int) == 0) = true := by simp [h0]
    clear hps h0
    go_enter Tryz.func79, Tryz.ntmps79
    go_wp2_with ((go_at_call 81; refine (fault_c _ _ _).mono ?_; rintro e w' ⟨rfl, rfl⟩))
    go_ret
    rw [hfin.out]
    exact errP_new (Below.refl _ _) _ _ rfl
  have h0' : ((ps.length : Int) == 0) = false := by rw [beq_eq_false_iff_ne]; omega
  by_cases h1 : 1000 < ps.length
  · have hfin : Hid (flt 130 (shapeF ps) = some (130, 1000)) := by unfold Hid; simp [flt, shapeF, h0, h1]
    clear hps
    go_enter Tryz.func79, Tryz.ntmps79
    go_wp2_with ((go_at_call 81; refine (fault_c _ _ _).mono ?_; rintro e w' ⟨rfl, rfl⟩))
    go_ret
    rw [hfin.out]
    exact errP_new (Below.refl _ _) _ _ rfl
  have hpos : 0 < ps.length := by omega
  obtain ⟨b, o, hAA⟩ : ∃ b o, A = some ⟨b, o, none⟩ := by
    obtain ⟨b, o, _, hA, _⟩ := hps 0 ps[0] (by simp [List.getElem?_eq_getElem hpos])
    exact ⟨b, o, hA⟩
  subst hAA
  have HP : PartsV w (.slice (some ⟨b, o, none⟩) ps.length c) ps := ⟨_, c, rfl, hlen, hps⟩
  clear hps
  have h1' : ¬ 1000 < ps.length := h1
  go_enter Tryz.func79, Tryz.ntmps79
  go_wp2
  go_loopw [3, 20] (fun vf i wr => ∃ (k : Nat) (free : List Int), k ≤ ps.length ∧ i = .int .i64 k ∧ free.length ≤ k ∧ (∀ x ∈ free, 0 ≤ x ∧ x < k) ∧ OwnInts wr w.heap.size vf free ∧ Below w.heap.size w wr ∧ shapeGo ps ps 0 [] = shapeGo ps (ps.drop k) k free) (fun vf i wr => ps.length - (intOf i).toNat)
  case atStart => exact ⟨0, [], Nat.zero_le _, rfl, Nat.le_refl _, by simp, World.ownsRow_nil _ _ _ _, Below.refl _ _, rfl⟩
  case round =>
    obtain ⟨k, free, hk, rfl, hfk, hfr, HO, HB, HG⟩ := hrel
    obtain ⟨A3, n, c3, rfl, hn, hf63, hfc⟩ := HO.shape'
    by_cases hlt : k < ps.length
    · have hget : ps[k]? = some ps[k] := List.getElem?_eq_getElem hlt
      obtain ⟨b', o', kv, hA, hbl, hr, hc0, hc1, hc2, hc3⟩ := (PartsV.below HP HB).get hget
      obtain ⟨rfl, rfl⟩ : b' = b ∧ o' = o := by simpa using hA.symm
      clear hA
      generalize hpp : ps[k] = p at *
      obtain ⟨Ak, ck, rfl, hkl, hkc⟩ := hr.2.2.2
      have HF : Hid (∀ h : partOk ps free p = false, flt 130 (shapeF ps) = some (130, (k : Int))) := fun h => shapeF_inl h0 h1 HG hget h
      have HG' : Hid (∀ h : partOk ps free p = true, shapeGo ps ps 0 [] = shapeGo ps (ps.drop (k + 1)) (k + 1) (free.take (free.length - p.kids.length) ++ [(k : Int)])) := fun h => HG.trans (shapeGo_good hget h)
      have hnk : n ≤ k := hn ▸ hfk
      have Hkc := Lib.hid hkc
      have Hfr := Lib.hid hfr
      have Hn := Lib.hid hn
      have HO' := Lib.hid HO
      have HB1 := (HB.alloc HB.size (.cells #[.int .i64 p.kind, .string p.text, .int .i64 p.num, .slice Ak p.kids.length ck] 66))
      have HB2 := (HB1.alloc HB1.size (.cells #[.int .i64 p.kind, .string p.text, .int .i64 p.num, .slice Ak p.kids.length ck] 66))
      have hsz := HB.size
      generalize hkn : p.kids.length = kl at *
      have Hkn := Lib.hid hkn
      clear hget hpp hkc HG hfr hfk hn HO hkn
      by_cases hpf : partFitsF p = true
      · by_cases hfl : kl ≤ n
        · obtain ⟨base, rfl⟩ : ∃ base, n = base + kl := ⟨n - kl, by omega⟩
          have hbase : ((base + kl : Nat) : Int) - (kl : Int) = base := by omega
          have Hb : Hid (free.length - p.kids.length = base) := by unfold Hid; rw [Hn.out, Hkn.out]; omega
          go_wp2_with (first | (go_at_call 128; refine (partFits_c p _ _ (hr.below ((Below.refl _ _).alloc (Nat.le_refl _) _))).mono ?_; rintro e w' ⟨rfl, rfl⟩))
          clear hbase
          go_loopw [47] (fun j wq => ∃ (m q : Nat), m ≤ kl ∧ j = .int .i64 m ∧ wq = ((wr.alloc (.cells #[.int .i64 p.kind, .string p.text, .int .i64 p.num, .slice Ak kl ck] 66)).alloc (.cells #[.int .i64 p.kind, .string p.text, .int .i64 p.num, .slice Ak kl ck] 66)).drewN q ∧ Hid (kidsUpto ps free p m)) (fun j wq => kl - (intOf j).toNat)
          case atStart => exact ⟨0, 0, Nat.zero_le _, rfl, rfl, Lib.hid (fun j hj => absurd hj (by omega))⟩
          case round =>
            obtain ⟨m, q, hm, rfl, rfl, hall⟩ := hrel
            by_cases hml : m < kl
            · obtain ⟨x, hx⟩ : ∃ x, p.kids[m]? = some x := ⟨_, List.getElem?_eq_getElem (by have := Hkn.out; omega)⟩
              obtain ⟨y, hy⟩ : ∃ y, free[base + m]? = some y := ⟨_, List.getElem?_eq_getElem (by have := Hn.out; omega)⟩
              obtain ⟨g, hgA, hg1, hg2, hgc⟩ := HO'.out.form' (by have := Hn.out; omega)
              subst hgA
              obtain ⟨hR, bk, ok, hAk, hbk, hck⟩ := Hkc.out m x hx
              subst hAk
              have hgm := hgc (base + m) y hy
              have hyr := Hfr.out y (List.mem_of_getElem? hy)
              have Hx := Lib.hid hx
              have Hy : Hid (free[free.length - p.kids.length + m]? = some y) := by unfold Hid; rw [Hb.out]; exact hy
              clear hgc hx hy
              have hs1 : IntKind.i64.wrap ((base : Int) + m) = ((base + m : Nat) : Int) := by rw [IntWalk.i64_in _ (by omega)]; omega
              have hs2 : (0 : Int) ≤ ((base + m : Nat) : Int) := by omega
              have hs3 : ((base + m : Nat) : Int) < ((base + kl : Nat) : Int) := by omega
              by_cases heq : x = y
              · obtain ⟨xn, rfl⟩ : ∃ xn : Nat, x = xn := Int.eq_ofNat_of_zero_le (by omega)
                have hxl : xn < ps.length := by omega
                obtain ⟨b5, o5, kv5, hA5, hbl5, hr5, hd0, -⟩ := (PartsV.below HP HB).get (List.getElem?_eq_getElem hxl)
                obtain ⟨rfl, rfl⟩ : b5 = b' ∧ o5 = o' := by simpa using hA5.symm
                clear hA5
                have Hkx : Hid (kindAt ps xn = ps[xn].kind) := by unfold Hid; simp [kindAt, List.getElem?_eq_getElem hxl]
                generalize ps[xn].kind = kx at *
                have hne' : ((xn : Int) != y) = false := by simpa using heq
                have Heq := Lib.hid heq
                clear heq hyr
                by_cases hkf : kidFitsF p.kind kx = true
                · have HS : Hid (kidsUpto ps free p (m + 1)) := kidsUpto_succ hall.out Hx.out (Heq.out ▸ Hy.out) (by rw [Hkx.out]; exact hkf)
                  go_wp2
                  go_quiet ((go_at_call 129; exact quiet_q (kidFits_c _ _ _)))
                  go_wp2
                  go_roundw
                  case rel => exact ⟨m + 1, _, by omega, by go_num, rfl, HS⟩
                  case measure => simp [intOf]; omega
                · have hkf' : kidFitsF p.kind kx = false := by simpa using hkf
                  go_wp2
                  go_quiet ((go_at_call 129; exact quiet_q (kidFits_c _ _ _)))
                  go_wp2_with (go_at_call 81; refine (fault_c _ _ _).mono ?_; rintro e w' ⟨rfl, rfl⟩)
                  go_ret
                  rw [HF.out (partOk_kind Hx.out (by rw [Hkx.out]; exact hkf'))]
                  exact errP_new (below_drewN HB2 _) _ _ (by simp)
              · have hne : (x == y) = false := by simpa using heq
                have hne' : (x != y) = true := by simpa using heq
                go_wp2
                go_quiet (fail)
                go_wp2_with (go_at_call 81; refine (fault_c _ _ _).mono ?_; rintro e w' ⟨rfl, rfl⟩)
                go_ret
                rw [HF.out (partOk_kid Hx.out Hy.out heq)]
                exact errP_new (below_drewN HB2 _) _ _ (by simp)
            · have hsl := cut_h (P := Tryz.prog) 31 3 Tryz.underlying31 Tryz.info_int' A3 (base + kl) c3 base (by omega) hfc
              obtain rfl : m = kl := by omega
              have HO2 := (HO'.out.take' base (by have := Hn.out; omega))
              have hl2 : (free.take base).length = base := by have := Hn.out; simp; omega
              have HO3 : Hid (OwnInts (((wr.alloc (.cells #[.int .i64 p.kind, .string p.text, .int .i64 p.num, .slice Ak m ck] 66)).alloc (.cells #[.int .i64 p.kind, .string p.text, .int .i64 p.num, .slice Ak m ck] 66)).drewN q) w.heap.size (.slice A3 base c3) (free.take base)) := HO2.below (below_drewN ((below_box _ _).alloc (by simp) _) _)
              have Hl2 := Lib.hid hl2
              clear HO2 hl2
              go_wp2_with (at_builtin; refine app1 (P := Tryz.prog) w.heap.size rfl _ _ 31 3 (.int .i64 0) 1 8 rfl Tryz.underlying31 Tryz.info_int rfl (by decide) (.slice A3 base c3) base ((free.take base).map (Value.int .i64)) [.int .i64 k] rfl rfl rfl rfl ?side ?_; rotate_left; intro v1 w1 hown hg hat)
              case side => exact ⟨by simp, by have := HO3.out; unfold OwnInts OwnF at this; rwa [Hl2.out] at this, by simp; omega, by omega, by omega⟩
              have HBn : Below w.heap.size w w1 := grown_below (below_drewN HB2 q) (by simp; omega) hg (fun b hb => (World.ownsRow.lt HO3.out b hb).1)
              have HOn : OwnInts w1 w.heap.size v1 (free.take base ++ [(k : Int)]) := by
                unfold OwnInts OwnF
                rw [List.length_append, Hl2.out, List.map_append]
                exact hown
              have HGn : shapeGo ps ps 0 [] = shapeGo ps (ps.drop (k + 1)) (k + 1) (free.take base ++ [(k : Int)]) := by
                have := HG'.out (partOk_all hpf (by rw [Hn.out, Hkn.out]; omega) (by rw [Hkn.out]; exact hall.out))
                rwa [Hn.out, Nat.add_sub_cancel] at this
              have hfrn : ∀ x ∈ free.take base ++ [(k : Int)], 0 ≤ x ∧ x < ((k + 1 : Nat) : Int) := by
                intro x hx
                rcases List.mem_append.1 hx with hx | hx
                · have := Hfr.out x (List.mem_of_mem_take hx); omega
                · simp at hx; omega
              have hln : (free.take base ++ [(k : Int)]).length ≤ k + 1 := by rw [List.length_append, Hl2.out]; simp; omega
              have HH := Lib.hid (And.intro hln (And.intro hfrn (And.intro HOn (And.intro HBn HGn))))
              clear hown hg hat HBn HOn HGn hfrn hln
              go_wp2
              go_roundw
              case rel => exact ⟨k + 1, _, by omega, by go_num, HH.out.1, HH.out.2.1, HH.out.2.2.1, HH.out.2.2.2.1, HH.out.2.2.2.2⟩
              case measure => simp [intOf]; omega
        · go_wp2_with (first | (go_at_call 128; refine (partFits_c p _ _ (hr.below ((Below.refl _ _).alloc (Nat.le_refl _) _))).mono ?_; rintro e w' ⟨rfl, rfl⟩) | (go_at_call 81; refine (fault_c _ _ _).mono ?_; rintro e w' ⟨rfl, rfl⟩))
          go_ret
          rw [HF.out (partOk_few (by rw [Hn.out, Hkn.out]; exact hfl))]
          exact errP_new HB2 _ _ (by simp)
      · go_wp2_with (first | (go_at_call 128; refine (partFits_c p _ _ (hr.below ((Below.refl _ _).alloc (Nat.le_refl _) _))).mono ?_; rintro e w' ⟨rfl, rfl⟩) | (go_at_call 81; refine (fault_c _ _ _).mono ?_; rintro e w' ⟨rfl, rfl⟩))
        go_ret
        rw [HF.out (partOk_fits (by simpa using hpf))]
        exact errP_new HB2 _ _ (by simp)
    · obtain rfl : k = ps.length := by omega
      have hlast : ps.length - 1 < ps.length := by omega
      obtain ⟨b', o', kv, hA, hbl, hr, hc0, -⟩ := (PartsV.below HP HB).get (List.getElem?_eq_getElem hlast)
      obtain ⟨rfl, rfl⟩ : b' = b ∧ o' = o := by simpa using hA.symm
      clear hA
      have hk1 : kindAt ps (ps.length - 1 : Nat) = ps[ps.length - 1].kind := by simp [kindAt, List.getElem?_eq_getElem hlast]
      generalize ps[ps.length - 1].kind = kx at *
      have HS : Hid (∀ r, (if isCondF kx && decide (n = 1) then none else some ((ps.length - 1 : Nat) : Int)) = r → flt 130 (shapeF ps) = flt 130 r) := by
        intro r hr
        rw [List.drop_length] at HG
        simp only [shapeF, h0, h1, HG, shapeGo, ← hr, hk1, hn, ↓reduceIte]
      have HB' := Lib.hid HB
      clear hk1 HG hfr hfk hn HO HB
      have hs1 : ((ps.length : Int) - 1) = ((ps.length - 1 : Nat) : Int) := by omega
      by_cases hcd : isCondF kx = true
      · by_cases hn1 : n = 1
        · have hn1' : ((n : Int) != 1) = false := by simp [hn1]
          go_wp2_with (go_at_call 130; refine (isCond_c _ _).mono ?_; rintro e w' ⟨rfl, rfl⟩)
          go_ret
          rw [HS.out none (by simp [hcd, hn1])]
          exact ⟨_, rfl, HB'.out, rfl⟩
        · have hn1' : ((n : Int) != 1) = true := by simp; omega
          go_wp2_with (first | (go_at_call 130; refine (isCond_c _ _).mono ?_; rintro e w' ⟨rfl, rfl⟩) | (go_at_call 81; refine (fault_c _ _ _).mono ?_; rintro e w' ⟨rfl, rfl⟩))
          go_ret
          rw [HS.out _ (by simp [hn1]; rfl)]
          exact errP_new HB'.out _ _ (by simp)
      · have hcd' : isCondF kx = false := by simpa using hcd
        go_wp2_with (first | (go_at_call 130; refine (isCond_c _ _).mono ?_; rintro e w' ⟨rfl, rfl⟩) | (go_at_call 81; refine (fault_c _ _ _).mono ?_; rintro e w' ⟨rfl, rfl⟩))
        go_ret
        rw [HS.out _ (by simp [hcd']; rfl)]
        exact errP_new HB'.out _ _ (by simp)
end Go.Proofs.YtldnkeackphilaaGreatDoor
namespace Go.Proofs.YtldnkeackphilaaGreatDoor
open Go.RowKit

structure WF (ps : List Part) : Prop where
  pos : 0 < ps.length
  le : ps.length ≤ 1000
  fits : ∀ (i : Nat) p, ps[i]? = some p → partFitsF p = true
  kids : ∀ (i : Nat) p, ps[i]? = some p → ∀ k ∈ p.kids, 0 ≤ k ∧ k < i
  kinds : ∀ (i : Nat) p, ps[i]? = some p → ∀ k ∈ p.kids, kidFitsF p.kind (kindAt ps k) = true
  last : isCondF (kindAt ps (ps.length - 1 : Nat)) = true
theorem shapeGo_inr (ps : List Part) : ∀ (l : List Part) (i : Nat) (free f : List Int), shapeGo ps l i free = .inr f → (∀ x ∈ free, 0 ≤ x ∧ x < (i : Int)) →
    ∀ (j : Nat) p, l[j]? = some p → partFitsF p = true ∧ (∀ k ∈ p.kids, 0 ≤ k ∧ k < ((i + j : Nat) : Int)) ∧ ∀ k ∈ p.kids, kidFitsF p.kind (kindAt ps k) = true := by
  intro l
  induction l with
  | nil => intro i free f _ _ j p hj; simp at hj
  | cons q r ih =>
    intro i free f h hf j p hj
    rw [shapeGo] at h
    split at h
    · rename_i hok
      simp only [partOk, Bool.and_eq_true, decide_eq_true_eq] at hok
      obtain ⟨⟨⟨h1, h2⟩, h3⟩, h4⟩ := hok
      cases j with
      | zero =>
        simp at hj
        subst hj
        refine ⟨h1, fun k hk => ?_, List.all_eq_true.1 h4⟩
        rw [h3] at hk
        simpa using hf k (List.mem_of_mem_drop hk)
      | succ j =>
        have := ih (i + 1) _ f h (by
          intro x hx
          rcases List.mem_append.1 hx with hx | hx
          · have := hf x (List.mem_of_mem_take hx); omega
          · simp at hx; omega) j p (by simpa using hj)
        rwa [show i + (j + 1) = i + 1 + j from by omega]
    · cases h
theorem wf_of_shape {ps : List Part} (h : shapeF ps = none) : WF ps := by
  unfold shapeF at h
  split at h
  · cases h
  · rename_i h0
    split at h
    · cases h
    · rename_i h1
      split at h
      · cases h
      · rename_i f hf
        have hh := shapeGo_inr ps ps 0 [] f hf (by simp)
        split at h
        · rename_i hl
          simp only [Bool.and_eq_true, decide_eq_true_eq] at hl
          exact ⟨by omega, by omega, fun i p hi => (hh i p hi).1, fun i p hi k hk => by simpa using (hh i p hi).2.1 k hk, fun i p hi => (hh i p hi).2.2, hl.1⟩
        · cases h

def deepKind (k : Int) : Bool := decide (k = 3 ∨ k = 8 ∨ k = 9 ∨ k = 20 ∨ k = 19)
def kidsSet (ps : List Part) (pk below : Int) (kids : List Int) (out : List Int) : List Int :=
  kids.foldl (fun out k => out.set k.toNat (below + if bracketedF pk (kindAt ps k) then 1 else 0)) out
def nestStep (ps : List Part) (out : List Int) (i : Nat) : List Int :=
  match ps[i]? with
  | none => out
  | some p => kidsSet ps p.kind (out.getD i 0 + if deepKind p.kind then 1 else 0) p.kids out
def nestsF (ps : List Part) : List Int := (List.range ps.length).reverse.foldl (nestStep ps) (List.replicate ps.length 0)

theorem kidsSet_len (ps : List Part) (pk below : Int) : ∀ (kids : List Int) (out : List Int), (kidsSet ps pk below kids out).length = out.length := by
  intro kids
  induction kids with
  | nil => intro out; rfl
  | cons k r ih => intro out; simp only [kidsSet, List.foldl_cons] at ih ⊢; rw [ih]; simp
theorem kidsSet_snoc (ps : List Part) (pk below : Int) (kids : List Int) (k : Int) (out : List Int) : kidsSet ps pk below (kids ++ [k]) out = (kidsSet ps pk below kids out).set k.toNat (below + if bracketedF pk (kindAt ps k) then 1 else 0) := by
  simp [kidsSet, List.foldl_append]
theorem kidsSet_bound (ps : List Part) (pk below M : Int) (h0 : 0 ≤ below) (hM : below + 1 ≤ M) : ∀ (kids : List Int) (out : List Int), (∀ x ∈ out, 0 ≤ x ∧ x ≤ M) → ∀ x ∈ kidsSet ps pk below kids out, 0 ≤ x ∧ x ≤ M := by
  intro kids
  induction kids with
  | nil => intro out h; exact h
  | cons k r ih =>
    intro out h
    simp only [kidsSet, List.foldl_cons] at ih ⊢
    refine ih _ fun x hx => ?_
    rcases List.mem_or_eq_of_mem_set hx with h1 | rfl
    · exact h x h1
    · split <;> omega
theorem nests_next {ps : List Part} {i : Nat} {p : Part} {out : List Int} (hp : ps[i]? = some p) : (List.range (i + 1)).reverse.foldl (nestStep ps) out = (List.range i).reverse.foldl (nestStep ps) (kidsSet ps p.kind (out.getD i 0 + if deepKind p.kind then 1 else 0) p.kids out) := by
  rw [List.range_succ, List.reverse_append]
  simp [nestStep, hp]

theorem Tryz.make_ints (n : Nat) (hn : n ≤ 35184372088064) : ∀ W : World, (Instr.makeSlice 31 (.int .i64 (n : Int)) (.int .i64 (n : Int))).run Tryz.prog W = .ok (.slice (some ⟨W.heap.size, 0, none⟩) n n) (W.alloc (.cells (madeCells #[.int .i64 0] n) 3)) := by
  intro W
  exact run_make_row' 31 3 (.int .i64 0) 8 Tryz.underlying31 Tryz.info_int rfl .i64 .i64 n (by omega) (by omega) W

set_option maxHeartbeats 4000000 in
set_option maxRecDepth 100000 in
theorem nests_c (ps : List Part) (v : Value) (w : World) (hp : PartsV w v ps) (hwf : WF ps) :
    Calls Tryz.prog 80 #[v] w fun e w' => ∃ v, e = .returned v ∧ IntsV w' v (nestsF ps) ∧ Below w.heap.size w w' := by
  obtain ⟨A, c, rfl, hlen, hps⟩ := hp
  have hpos := hwf.pos
  have hle := hwf.le
  obtain ⟨b, o, hAA⟩ : ∃ b o, A = some ⟨b, o, none⟩ := by
    obtain ⟨b, o, _, hA, _⟩ := hps 0 ps[0] (by simp [List.getElem?_eq_getElem hpos])
    exact ⟨b, o, hA⟩
  subst hAA
  have HP : PartsV w (.slice (some ⟨b, o, none⟩) ps.length c) ps := ⟨_, c, rfl, hlen, hps⟩
  clear hps
  have hmk := Tryz.make_ints ps.length (by omega)
  have HWF := Lib.hid hwf
  clear hwf
  have hs1 : ((ps.length : Int) - 1) = ((ps.length - 1 : Nat) : Int) := by omega
  go_enter Tryz.func80, Tryz.ntmps80
  go_wp2
  clear hmk hs1
  go_loopw [4] (fun i wr => ∃ (m : Nat) (out : List Int), m ≤ ps.length ∧ i = .int .i64 ((m : Int) - 1) ∧ Hid (out.length = ps.length) ∧ Hid (∀ x ∈ out, 0 ≤ x ∧ x ≤ 2 * ((ps.length : Int) - m)) ∧ Hid (OwnInts wr w.heap.size (.slice (some ⟨w.heap.size, 0, none⟩) ps.length ps.length) out) ∧ Below w.heap.size w wr ∧ Hid (nestsF ps = (List.range m).reverse.foldl (nestStep ps) out)) (fun i wr => (intOf i + 1).toNat)
  case atStart =>
    refine ⟨ps.length, _, Nat.le_refl _, ?_, Lib.hid List.length_replicate, Lib.hid ?_, Lib.hid (OwnF.made 0 w _ _ (Nat.le_refl _) (by omega)), below_box _ _, Lib.hid rfl⟩
    · congr 1; omega
    · intro x hx
      have := List.eq_of_mem_replicate hx
      omega
  case round =>
    obtain ⟨m, out, hm, rfl, Hol, Hob, HO, HB, HG⟩ := hrel
    by_cases hm0 : m = 0
    · subst hm0
      have hfin := HG.out
      simp only [List.range_zero, List.reverse_nil, List.foldl_nil] at hfin
      have Hfin := Lib.hid hfin
      clear hfin
      go_wp2
      go_ret
      refine ⟨_, rfl, ?_, HB⟩
      rw [Hfin.out, ← Hol.out]
      have h2 := HO.out
      rw [← Hol.out] at h2
      exact h2.reads (by have := Hol.out; omega) (fun x hx => by have := Hob.out x hx; exact ⟨by omega, by omega⟩)
    · obtain ⟨i, rfl⟩ : ∃ i, m = i + 1 := ⟨m - 1, by omega⟩
      have hi : i < ps.length := by omega
      have hget : ps[i]? = some ps[i] := List.getElem?_eq_getElem hi
      obtain ⟨b', o', kv, hA, hbl0, hr, hd0, hd1, hd2, hd3⟩ := HP.get hget
      obtain ⟨rfl, rfl⟩ : b' = b ∧ o' = o := by simpa using hA.symm
      have hc0 := cell_below HB hd0
      have hc1 := cell_below HB hd1
      have hc2 := cell_below HB hd2
      have hc3 := cell_below HB hd3
      have hbl : b' < wr.heap.size := Nat.lt_of_lt_of_le hbl0 HB.size
      clear hA hd0 hd1 hd2 hd3
      have hkr := HWF.out.kids i _ hget
      generalize hpp : ps[i] = p at *
      obtain ⟨Ak, ck, rfl, hkl, hkc⟩ := hr.2.2.2
      obtain ⟨oi, hoi⟩ : ∃ oi, out[i]? = some oi := ⟨_, List.getElem?_eq_getElem (by have := Hol.out; omega)⟩
      have hoib := Hob.out oi (List.mem_of_getElem? hoi)
      have Hoi : Hid (out.getD i 0 = oi) := by unfold Hid; simp [List.getD_eq_getElem?_getD, hoi]
      obtain ⟨g', hg', _, hgl, hgc⟩ := HO.out.form' (by have := Hol.out; omega)
      have hc5 := hgc i oi hoi
      obtain rfl : w.heap.size = g' := by simpa using hg'
      have Hkr := Lib.hid hkr
      have Hget := Lib.hid hget
      have Hkc : Hid (IntsV w (.slice Ak p.kids.length ck) p.kids) := ⟨Ak, ck, rfl, hkl, hkc⟩
      clear hget hkc hkr hpp hgc hoi hg'
      have hs2 : (((i + 1 : Nat) : Int) - 1) = (i : Int) := by omega
      rw [hs2]
      clear hs2
      generalize hdk : (if deepKind p.kind then (1 : Int) else 0) = dk
      have Hdk := Lib.hid hdk
      have hdkb : 0 ≤ dk ∧ dk ≤ 1 := by rw [← hdk]; split <;> omega
      clear hdk
      go_upto_block 2 with fail
      go_cut [6] (fun s6 wx => s6 = .int .i64 (oi + dk) ∧ wx = wr.alloc (.cells #[.int .i64 p.kind, .string p.text, .int .i64 p.num, .slice Ak p.kids.length ck] 66))
      case first =>
        by_cases hd : deepKind p.kind = true
        · have Hdk' : Hid (dk = 1) := by unfold Hid; rw [← Hdk.out, hd]; rfl
          simp only [deepKind, decide_eq_true_eq] at hd
          rcases hd with h | h | h | h | h
          all_goals
            go_wp2
            go_meet
            exact ⟨by rw [Hdk'.out], by rw [h]⟩
        · have Hdk' : Hid (dk = 0) := by unfold Hid; rw [← Hdk.out]; simp [hd]
          simp only [deepKind, decide_eq_true_eq, not_or] at hd
          obtain ⟨h1, h2, h3, h4, h5⟩ := hd
          go_wp2
          go_meet
          exact ⟨by rw [Hdk'.out]; simp, rfl⟩
      case rest =>
        obtain ⟨rfl, rfl⟩ := hcut
        generalize hW : wr.alloc (.cells #[.int .i64 p.kind, .string p.text, .int .i64 p.num, .slice Ak p.kids.length ck] 66) = W at *
        have hbp : W.cell? ⟨wr.heap.size, 0, none⟩ = some (.int .i64 p.kind) := by rw [← hW]; simp
        have hbk : W.cell? ⟨wr.heap.size, 3, none⟩ = some (.slice Ak p.kids.length ck) := by rw [← hW]; simp
        have HBW : Below w.heap.size w W := hW ▸ HB.alloc HB.size _
        have HOW : Hid (OwnInts W w.heap.size (.slice (some ⟨w.heap.size, 0, none⟩) ps.length ps.length) (kidsSet ps p.kind (oi + dk) (p.kids.take 0) out)) := by
          have := HO.out.below (below_box _ (.cells #[.int .i64 p.kind, .string p.text, .int .i64 p.num, .slice Ak p.kids.length ck] 66))
          rw [hW] at this
          exact this
        have hbs : wr.heap.size < W.heap.size := by rw [← hW]; simp
        have hgs : w.heap.size < wr.heap.size := by omega
        clear hW hc0 hc1 hc2 hc3 HO hc5 HB hbl hr
        generalize hkl' : p.kids.length = kl at *
        have Hkl := Lib.hid hkl'
        clear hkl'
        go_wp2
        clear hbk
        obtain ⟨wo, rfl⟩ : ∃ wo : World, wo = wr := ⟨_, rfl⟩
        go_loopw [40] (fun j wq => ∃ m : Nat, m ≤ kl ∧ j = .int .i64 m ∧ wq.cell? ⟨wo.heap.size, 0, none⟩ = some (.int .i64 p.kind) ∧ wo.heap.size < wq.heap.size ∧ Below w.heap.size w wq ∧ Hid (OwnInts wq w.heap.size (.slice (some ⟨w.heap.size, 0, none⟩) ps.length ps.length) (kidsSet ps p.kind (oi + dk) (p.kids.take m) out))) (fun j wq => kl - (intOf j).toNat)
        case atStart => exact ⟨0, Nat.zero_le _, rfl, hbp, hbs, HBW, HOW⟩
        case round =>
          obtain ⟨m, hm, rfl, hbp, hbs, HBQ, HOQ⟩ := hrel
          by_cases hml : m < kl
          · obtain ⟨x, hx⟩ : ∃ x, p.kids[m]? = some x := ⟨_, List.getElem?_eq_getElem (by have := Hkl.out; omega)⟩
            obtain ⟨hR, bk, ok, hAk, hbk, hck⟩ := Hkc.out.get m x hx
            subst hAk
            have hxr := Hkr.out x (List.mem_of_getElem? hx)
            obtain ⟨xn, rfl⟩ : ∃ xn : Nat, x = xn := Int.eq_ofNat_of_zero_le (by omega)
            have hck' := cell_below HBQ hck
            have hbk' : bk < wr.heap.size := Nat.lt_of_lt_of_le hbk HBQ.size
            have hxl : xn < ps.length := by omega
            obtain ⟨b5, o5, kv5, hA5, hbl5, hr5, hd0, -⟩ := HP.get (List.getElem?_eq_getElem hxl)
            obtain ⟨rfl, rfl⟩ : b5 = b' ∧ o5 = o' := by simpa using hA5.symm
            have hd0' := cell_below HBQ hd0
            have hbl5' : b5 < wr.heap.size := Nat.lt_of_lt_of_le hbl5 HBQ.size
            have Hkx : Hid (kindAt ps xn = ps[xn].kind) := by unfold Hid; simp [kindAt, List.getElem?_eq_getElem hxl]
            generalize ps[xn].kind = kx at *
            have HL : Hid ((kidsSet ps p.kind (oi + dk) (p.kids.take m) out).length = ps.length) := Lib.hid (by rw [kidsSet_len]; exact Hol.out)
            obtain ⟨y, hy⟩ : ∃ y, (kidsSet ps p.kind (oi + dk) (p.kids.take m) out)[xn]? = some y := ⟨_, List.getElem?_eq_getElem (by have := HL.out; omega)⟩
            obtain ⟨g', hg', _, hgl, hgc⟩ := HOQ.out.form' (by have := HL.out; omega)
            obtain rfl : w.heap.size = g' := by simpa using hg'
            have hcy := hgc xn y hy
            have hfz := HOQ.out.free xn
            have hng : (w.heap.size == b5) = false := by simp; omega
            have Hx := Lib.hid hx
            clear hgc hy hg' hck hd0 hA5 hx
            have hst := HOQ.out.store HL.out xn (oi + dk)
            have hst2 := fun q => ((hst.1.drewN q).store (by rw [List.length_set]; exact HL.out) xn (oi + dk + 1)).1
            have Hsn : Hid (∀ bb, bracketedF p.kind kx = bb → kidsSet ps p.kind (oi + dk) (p.kids.take (m + 1)) out = (kidsSet ps p.kind (oi + dk) (p.kids.take m) out).set xn (oi + dk + if bb then 1 else 0)) := by
              intro bb hbb
              rw [List.take_add_one, Hx.out, Option.toList_some, kidsSet_snoc, Hkx.out, hbb]
              simp
            have HS1 := Lib.hid hst.1
            have HS2 := Lib.hid hst2
            clear hst hst2
            have HBS := HBQ.setCell (p := ⟨w.heap.size, xn, none⟩) (Nat.le_refl _) (.int .i64 (oi + dk))
            go_wp2
            go_quiet ((go_at_call 131; exact Calls.quiet_of_same (bracketed_c _ _ _)))
            go_wp2
            · go_roundw
              case rel => exact ⟨m + 1, by omega, by go_num, cell_set_ne (by simp; omega) (cell_set_ne (by simp; omega) hbp), by simp [World.setCell]; omega, (below_drewN HBS nq).setCell (Nat.le_refl _) _, by rw [Hsn.out true (by assumption), ← List.set_set (a := oi + dk)]; exact HS2.out nq⟩
              case measure => simp [intOf]; try omega
            · go_roundw
              case rel => exact ⟨m + 1, by omega, by go_num, cell_set_ne (by simp; omega) hbp, by simp [World.setCell]; omega, below_drewN HBS nq, by rw [Hsn.out false (by assumption)]; simp only [Bool.false_eq_true, ↓reduceIte, Int.add_zero]; exact HS1.out.drewN nq⟩
              case measure => simp [intOf]; try omega
          · obtain rfl : m = kl := by omega
            have HN : Hid (nestsF ps = (List.range i).reverse.foldl (nestStep ps) (kidsSet ps p.kind (oi + dk) (p.kids.take m) out)) := by
              unfold Hid
              rw [HG.out, nests_next Hget.out, Hoi.out, Hdk.out, ← Hkl.out, List.take_length]
            have HL : Hid ((kidsSet ps p.kind (oi + dk) (p.kids.take m) out).length = ps.length) := Lib.hid (by rw [kidsSet_len]; exact Hol.out)
            have HBd : Hid (∀ x ∈ kidsSet ps p.kind (oi + dk) (p.kids.take m) out, 0 ≤ x ∧ x ≤ 2 * ((ps.length : Int) - i)) := Lib.hid (kidsSet_bound ps _ _ _ (by omega) (by omega) _ _ (fun x hx => by have := Hob.out x hx; omega))
            go_wp2
            go_roundw
            case rel => exact ⟨i, _, by omega, by go_num, HL, HBd, HOQ, HBQ, HN⟩
            case measure => simp [intOf]; try omega
end Go.Proofs.YtldnkeackphilaaGreatDoor
namespace Go.Proofs.YtldnkeackphilaaGreatDoor
open Go.RowKit

def nestBad (ps : List Part) : Option Int := ((nestsF ps).findIdx? (fun x => decide (32 < x))).map (fun i : Nat => (i : Int))
def validF (ps : List Part) : Option (Int × Int) :=
  match shapeF ps with
  | some i => some (130, i)
  | none => (nestBad ps).map fun i => (122, i)
theorem findIdx_skip {l : List Int} {p : Int → Bool} {k : Nat} {x : Int} (hk : l[k]? = some x) (h : p x = false) : (l.drop k).findIdx? p = ((l.drop (k + 1)).findIdx? p).map (· + 1) := by
  obtain ⟨hk', rfl⟩ := List.getElem?_eq_some_iff.1 hk
  rw [List.drop_eq_getElem_cons hk', List.findIdx?_cons, h]; rfl
theorem findIdx_hit {l : List Int} {p : Int → Bool} {k : Nat} {x : Int} (hk : l[k]? = some x) (h : p x = true) : (l.drop k).findIdx? p = some 0 := by
  obtain ⟨hk', rfl⟩ := List.getElem?_eq_some_iff.1 hk
  rw [List.drop_eq_getElem_cons hk', List.findIdx?_cons, h]; rfl

set_option maxHeartbeats 1000000 in
theorem nest_c (ps : List Part) (v : Value) (w : World) (hp : PartsV w v ps) :
    Calls Tryz.prog 44 #[.agg #[v]] w fun e w' => ∃ m ev, e = .returned (.tuple #[.int .i64 m, ev]) ∧ ErrV w (validF ps) ev w' := by
  obtain ⟨A, c, rfl, hlen, hps⟩ := id hp
  clear hps
  have hp1 : Hid (PartsV (w.alloc (.cells #[.slice A ps.length c] 30)) (.slice A ps.length c) ps) := hp.below (below_box _ _)
  clear hp
  go_enter Tryz.func44, Tryz.ntmps44
  cases hsh : shapeF ps with
  | some i =>
    have Hsh := Lib.hid hsh
    clear hsh
    go_wp2_with (go_at_call 79; refine (shape_c ps _ _ hp1.out).mono ?_; rw [Hsh.out]; rintro e w' ⟨ev, rfl, hB, bb, rfl, hlt, hh⟩)
    have hV : Hid (ErrV w (validF ps) (.iface 114 (.pointer (some ⟨bb, 0, none⟩))) w') := by
      refine ⟨(below_box w _).trans (hB.mono (by simp)), ?_⟩
      rw [show validF ps = some (130, i) by simp [validF, Hsh.out]]
      exact ⟨bb, rfl, by simp at hlt; omega, hh⟩
    clear hB hlt hh
    go_wp2
    go_ret2
    exact ⟨_, _, rfl, hV.out⟩
  | none =>
    have HWF : Hid (WF ps) := wf_of_shape hsh
    have Hsh := Lib.hid hsh
    clear hsh
    go_wp2_with (go_at_call 79; refine (shape_c ps _ _ hp1.out).mono ?_; rw [Hsh.out]; rintro e w1 ⟨ev, rfl, hB, rfl⟩; obtain ⟨hc, hf⟩ := bcell hB)
    have HB1 : Below w.heap.size w w1 := (below_box w _).trans (hB.mono (by simp))
    have hsz : w.heap.size < w1.heap.size := by have := hB.size; simp at this; omega
    have hp2 : Hid (PartsV w1 (.slice A ps.length c) ps) := hp1.out.below hB
    clear hB
    go_wp2_with (go_at_call 80; refine (nests_c ps _ _ hp2.out HWF.out).mono ?_; rintro e w2 ⟨v2, rfl, hI, hB2⟩; obtain ⟨A2, c2, rfl, hl2, hx2⟩ := id hI)
    have HI := Lib.hid hI
    have HB2 : Below w.heap.size w w2 := HB1.trans (hB2.mono HB1.size)
    clear hI hx2 hB2 HB1 hc hf
    go_wp2
    generalize hnl : (nestsF ps).length = nl at *
    have Hnl := Lib.hid hnl
    have HV : Hid (∀ k : Nat, (nestBad ps = (((nestsF ps).drop k).findIdx? (fun x => decide (32 < x))).map (fun i : Nat => ((k + i : Nat) : Int))) → ∀ x, (nestsF ps)[k]? = some x → 32 < x → validF ps = some (122, (k : Int))) := by
      intro k h x hx h32
      rw [findIdx_hit hx (by simpa using h32)] at h
      simp [validF, Hsh.out, h]
    have HV0 : Hid (nestBad ps = none → validF ps = none) := by intro h; simp [validF, Hsh.out, h]
    clear hnl
    go_loopw [5, 18] (fun ms i wq => ∃ (k : Nat) (m : Int), k ≤ nl ∧ i = .int .i64 k ∧ ms = .int .i64 m ∧ wq = w2 ∧ Hid (nestBad ps = (((nestsF ps).drop k).findIdx? (fun x => decide (32 < x))).map (fun i : Nat => ((k + i : Nat) : Int)))) (fun ms i wq => nl - (intOf i).toNat)
    case atStart => exact ⟨0, 0, Nat.zero_le _, rfl, rfl, rfl, Lib.hid (by simp only [nestBad, List.drop_zero, Nat.zero_add])⟩
    case round =>
      obtain ⟨k, m, hk, rfl, rfl, rfl, hnb⟩ := hrel
      by_cases hlt : k < nl
      · obtain ⟨x, hx⟩ : ∃ x, (nestsF ps)[k]? = some x := ⟨_, List.getElem?_eq_getElem (by have := Hnl.out; omega)⟩
        obtain ⟨hR, bk, ok, hAk, hbk, hck⟩ := HI.out.get k x hx
        subst hAk
        have Hx := Lib.hid hx
        clear hx
        by_cases h32 : 32 < x
        · have hv : Hid (validF ps = some (122, (k : Int))) := HV.out k hnb.out x Hx.out h32
          go_wp2_with (go_at_call 81; refine (fault_c _ _ _).mono ?_; rintro e w' ⟨rfl, rfl⟩)
          go_ret2
          rw [hv.out]
          exact ⟨_, _, rfl, errV_new HB2 _ _ rfl⟩
        · have hn : Hid (nestBad ps = (((nestsF ps).drop (k + 1)).findIdx? (fun x => decide (32 < x))).map (fun i : Nat => ((k + 1 + i : Nat) : Int))) := by
            unfold Hid
            rw [hnb.out, findIdx_skip Hx.out (by simpa using h32), Option.map_map]
            congr 1
            funext i
            simp only [Function.comp]
            omega
          clear hnb
          go_wp2
          all_goals
            go_roundw
            case rel => exact ⟨k + 1, _, by omega, by go_num, by first | rfl | trivial, by first | rfl | trivial, hn⟩
            case measure => simp [intOf]; try omega
      · have hn : Hid (validF ps = none) := HV0.out (by rw [hnb.out, List.drop_eq_nil_of_le (by have := Hnl.out; omega)]; rfl)
        go_wp2
        go_ret2
        rw [hn.out]
        exact ⟨_, _, rfl, HB2, rfl⟩

set_option maxHeartbeats 1000000 in
theorem valid_c (ps : List Part) (v : Value) (w : World) (hp : PartsV w v ps) :
    Calls Tryz.prog 19 #[.agg #[v]] w (ErrP w (validF ps)) := by
  have hp1 : Hid (PartsV (w.alloc (.cells #[v] 30)) v ps) := hp.below (below_box _ _)
  obtain ⟨A, c, rfl, hlen, hps⟩ := hp
  clear hps
  go_enter Tryz.func19, Tryz.ntmps19
  go_wp2_with (go_at_call 44; refine (nest_c ps _ _ hp1.out).mono ?_; rintro e w1 ⟨m, ev, rfl, hE⟩)
  go_ret
  refine ⟨_, rfl, (below_box w _).trans (hE.1.mono (by simp)), ?_⟩
  have h2 := hE.2
  cases hv : validF ps with
  | none => rw [hv] at h2; exact h2
  | some q =>
    rw [hv] at h2
    obtain ⟨b, h3, h4, h5⟩ := h2
    exact ⟨b, h3, by simp at h4; omega, h5⟩
end Go.Proofs.YtldnkeackphilaaGreatDoor
namespace Go.Proofs.YtldnkeackphilaaGreatDoor
open Go.RowKit

def TypesV (w : World) (v : Value) (ts : List (Int × Int)) : Prop :=
  ∃ A c, v = .slice A ts.length c ∧ ts.length ≤ 4398046510976 ∧ ∀ j t, ts[j]? = some t → ∃ b o, A = some ⟨b, o, none⟩ ∧ b < w.heap.size ∧
    w.cell? ⟨b, o + j * 2, none⟩ = some (.int .i64 t.1) ∧ w.cell? ⟨b, o + j * 2 + 1, none⟩ = some (.int .i64 t.2)
theorem TypesV.below {w w1 : World} {v : Value} {xs : List (Int × Int)} (h : TypesV w v xs) (hb : Below w.heap.size w w1) : TypesV w1 v xs := by
  obtain ⟨A, c, rfl, hl, hx⟩ := h
  refine ⟨A, c, rfl, hl, fun j x hj => ?_⟩
  obtain ⟨b, o, hA, hlt, h0, h1⟩ := hx j x hj
  exact ⟨b, o, hA, Nat.lt_of_lt_of_le hlt hb.size, cell_below hb h0, cell_below hb h1⟩
theorem TypesV.get {w : World} {A : Option Addr} {n c : Nat} {xs : List (Int × Int)} (h : TypesV w (.slice A n c) xs) {j : Nat} {t : Int × Int} (hj : xs[j]? = some t) : ∃ b o, A = some ⟨b, o, none⟩ ∧ b < w.heap.size ∧
    w.cell? ⟨b, o + j * 2, none⟩ = some (.int .i64 t.1) ∧ w.cell? ⟨b, o + j * 2 + 1, none⟩ = some (.int .i64 t.2) := by
  obtain ⟨A', c', he, _, hx⟩ := h
  injection he with he
  subst he
  exact hx j t hj
structure Look (w : World) (lb : Nat) (pv sv tv : Value) (ps : List Part) (sc : List Int) (ts : List (Int × Int)) : Prop where
  c0 : w.cell? ⟨lb, 0, none⟩ = some pv
  c1 : w.cell? ⟨lb, 1, none⟩ = some sv
  c2 : w.cell? ⟨lb, 2, none⟩ = some tv
  lt : lb < w.heap.size
  P : PartsV w pv ps
  S : IntsV w sv sc
  T : TypesV w tv ts
theorem Look.below {w w1 : World} {lb : Nat} {pv sv tv : Value} {ps : List Part} {sc : List Int} {ts : List (Int × Int)} (h : Look w lb pv sv tv ps sc ts) (hb : Below w.heap.size w w1) : Look w1 lb pv sv tv ps sc ts :=
  ⟨cell_below hb h.c0, cell_below hb h.c1, cell_below hb h.c2, Nat.lt_of_lt_of_le h.lt hb.size, h.P.below hb, h.S.below hb, h.T.below hb⟩

def selK (k : Int) : Bool := decide (k = 8 ∨ k = 9 ∨ k = 20)
theorem inner_c (k : Int) (w : World) : Calls Tryz.prog 82 #[.int .i64 k] w fun e w' => e = .returned (.bool (selK k)) ∧ w' = w := by
  go_enter Tryz.func82, Tryz.ntmps82
  go_wp2
  all_goals (go_ret; exact ⟨ret_b (by rw [Bool.eq_iff_iff]; simp_all [selK]; try grind), rfl⟩)
theorem sfault_c (code pl : Int) (w : World) : Calls Tryz.prog 45 #[.int .i64 code, .int .i64 pl] w fun e w' => e = .returned (.pointer (some ⟨w.heap.size, 0, none⟩)) ∧ w' = w.alloc (.cells #[.int .i64 code, .int .i64 pl, .string ⟨#[]⟩, .nilIface] 118) := by
  go_enter Tryz.func45, Tryz.ntmps45
  go_wp2
  go_ret
  exact ⟨rfl, rfl⟩
def FltV (w : World) (r : Option (Int × Int)) (v : Value) (w' : World) : Prop := Below w.heap.size w w' ∧
  match r with
  | none => v = .pointer none
  | some (c, pl) => ∃ b, v = .pointer (some ⟨b, 0, none⟩) ∧ w.heap.size ≤ b ∧ w'.heap[b]? = some (.cells #[.int .i64 c, .int .i64 pl, .string ⟨#[]⟩, .nilIface] 118)
theorem fltV_new {w W : World} (h : Below w.heap.size w W) (c pl : Int) {n : Nat} (hn : n = W.heap.size) : FltV w (some (c, pl)) (.pointer (some ⟨n, 0, none⟩)) (W.alloc (.cells #[.int .i64 c, .int .i64 pl, .string ⟨#[]⟩, .nilIface] 118)) :=
  ⟨h.alloc h.size _, _, rfl, hn ▸ h.size, hn ▸ heap_alloc_new W _⟩
theorem FltV.from {w0 w : World} (hb : Below w0.heap.size w0 w) {r : Option (Int × Int)} {v : Value} {w' : World} (h : FltV w r v w') : FltV w0 r v w' := by
  refine ⟨hb.trans (h.1.mono hb.size), ?_⟩
  have h2 := h.2
  rcases r with _ | ⟨c, pl⟩
  · exact h2
  · obtain ⟨b, h3, h4, h5⟩ := h2
    exact ⟨b, h3, Nat.le_trans hb.size h4, h5⟩

def sideAt (ts : List (Int × Int)) (k : Int) : Int := (ts[k.toNat]?.map (·.2)).getD 0
def sortAt (ts : List (Int × Int)) (k : Int) : Int := (ts[k.toNat]?.map (·.1)).getD 0
def movesF (ts : List (Int × Int)) (k : Int) : Bool := decide (sideAt ts k = 2 ∨ sideAt ts k = 3)
def joinedF (ts : List (Int × Int)) (kids : List Int) : Int := kids.foldl (fun side k => if sideAt ts k ≠ 0 ∧ (side = 0 ∨ side = 1) then sideAt ts k else side) 0
def boolsF (ts : List (Int × Int)) (kids : List Int) : Option (Int × Int) := (kids.find? fun k => decide (sortAt ts k ≠ 1)).map fun k => (141, k)

theorem sideAt_nat {ts : List (Int × Int)} {k : Nat} {t : Int × Int} (h : ts[k]? = some t) : sideAt ts k = t.2 := by simp [sideAt, h]
theorem sortAt_nat {ts : List (Int × Int)} {k : Nat} {t : Int × Int} (h : ts[k]? = some t) : sortAt ts k = t.1 := by simp [sortAt, h]

theorem moves_c (lb : Nat) (pv sv tv : Value) (ps : List Part) (sc : List Int) (ts : List (Int × Int)) (k : Nat) (w : World) (h : Look w lb pv sv tv ps sc ts) (hk : k < ts.length) :
    Calls Tryz.prog 132 #[.pointer (some ⟨lb, 0, none⟩), .int .i64 k] w fun e w' => e = .returned (.bool (movesF ts k)) ∧ w' = w := by
  obtain ⟨hc0, hc1, hc2, hlb, -, -, A, c, rfl, hl, hx⟩ := h
  obtain ⟨⟨s, d⟩, ht⟩ : ∃ t, ts[k]? = some t := ⟨_, List.getElem?_eq_getElem hk⟩
  obtain ⟨b, o, rfl, hb, h1, h2⟩ := hx k _ ht
  have hs : Hid (sideAt ts k = d) := sideAt_nat ht
  clear hx ht
  have hkl : (k : Int) < ts.length := by omega
  go_enter Tryz.func132, Tryz.ntmps132
  go_wp2
  all_goals (go_ret; exact ⟨ret_b (by rw [movesF, hs.out, Bool.eq_iff_iff]; simp_all; try grind), rfl⟩)

set_option maxHeartbeats 1000000 in
theorem joined_c (lb : Nat) (pv sv tv : Value) (ps : List Part) (sc : List Int) (ts : List (Int × Int)) (kv : Value) (kids : List Int) (w : World) (h : Look w lb pv sv tv ps sc ts) (hv : IntsV w kv kids) (hk : ∀ k ∈ kids, 0 ≤ k ∧ k < ts.length) :
    Calls Tryz.prog 83 #[.pointer (some ⟨lb, 0, none⟩), kv] w fun e w' => e = .returned (.int .i64 (joinedF ts kids)) ∧ w' = w := by
  obtain ⟨hc0, hc1, hc2, hlb, -, -, A, c, rfl, hl, hx⟩ := h
  obtain ⟨Ak, ck, rfl, hkl, hkx⟩ := hv
  have Hx := Lib.hid hx
  have Hkx := Lib.hid hkx
  have Hk := Lib.hid hk
  generalize hkn : kids.length = n at *
  have Hkn := Lib.hid hkn
  clear hx hkx hk hkn
  go_enter Tryz.func83, Tryz.ntmps83
  go_wp2
  go_loop [5, 11] (fun sd i => ∃ (k : Nat) (d : Int), k ≤ n ∧ i = .int .i64 k ∧ sd = .int .i64 d ∧ Hid (d = joinedF ts (kids.take k))) (fun sd i => n - (intOf i).toNat)
  case atStart => exact ⟨0, 0, Nat.zero_le _, rfl, rfl, rfl⟩
  case round =>
    obtain ⟨k, d, hkn, rfl, rfl, hd⟩ := hrel
    by_cases hlt : k < n
    · obtain ⟨x, hx⟩ : ∃ x, kids[k]? = some x := ⟨_, List.getElem?_eq_getElem (by have := Hkn.out; omega)⟩
      obtain ⟨hR, bk, ok, hAk, hbk, hck⟩ := Hkx.out k x hx
      subst hAk
      have hxr := Hk.out x (List.mem_of_getElem? hx)
      obtain ⟨xn, rfl⟩ : ∃ xn : Nat, x = xn := Int.eq_ofNat_of_zero_le (by omega)
      obtain ⟨⟨s, t⟩, ht⟩ : ∃ t, ts[xn]? = some t := ⟨_, List.getElem?_eq_getElem (by omega)⟩
      obtain ⟨b, o, hA, hb, h1, h2⟩ := Hx.out xn _ ht
      subst hA
      have HS : Hid (joinedF ts (kids.take (k + 1)) = if t ≠ 0 ∧ (d = 0 ∨ d = 1) then t else d) := by
        unfold Hid
        rw [List.take_add_one, hx, Option.toList_some, joinedF, List.foldl_append, List.foldl_cons, List.foldl_nil, ← joinedF, ← hd.out, sideAt_nat ht]
      clear hx ht hd
      go_wp2
      all_goals
        go_round
        case rel => exact ⟨k + 1, _, by omega, by go_num, rfl, by unfold Hid; rw [HS.out]; simp_all⟩
        case measure => simp [intOf]; try omega
    · have hf : Hid (d = joinedF ts kids) := by have := hd.out; rwa [List.take_of_length_le (by have := Hkn.out; omega)] at this
      clear hd
      go_wp2
      go_ret
      exact ⟨ret_i hf.out, rfl⟩

set_option maxHeartbeats 1000000 in
theorem bools_c (lb : Nat) (pv sv tv : Value) (ps : List Part) (sc : List Int) (ts : List (Int × Int)) (kv : Value) (kids : List Int) (w : World) (h : Look w lb pv sv tv ps sc ts) (hv : IntsV w kv kids) (hk : ∀ k ∈ kids, 0 ≤ k ∧ k < ts.length) :
    Calls Tryz.prog 84 #[.pointer (some ⟨lb, 0, none⟩), kv] w fun e w' => ∃ v, e = .returned v ∧ FltV w (boolsF ts kids) v w' := by
  obtain ⟨hc0, hc1, hc2, hlb, -, -, A, c, rfl, hl, hx⟩ := h
  obtain ⟨Ak, ck, rfl, hkl, hkx⟩ := hv
  have Hx := Lib.hid hx
  have Hkx := Lib.hid hkx
  have Hk := Lib.hid hk
  generalize hkn : kids.length = n at *
  have Hkn := Lib.hid hkn
  clear hx hkx hk hkn
  go_enter Tryz.func84, Tryz.ntmps84
  go_wp2
  go_loop [9] (fun i => ∃ (k : Nat), k ≤ n ∧ i = .int .i64 k ∧ Hid (boolsF ts kids = boolsF ts (kids.drop k))) (fun i => n - (intOf i).toNat)
  case atStart => exact ⟨0, Nat.zero_le _, rfl, rfl⟩
  case round =>
    obtain ⟨k, hkn, rfl, hd⟩ := hrel
    by_cases hlt : k < n
    · obtain ⟨x, hx⟩ : ∃ x, kids[k]? = some x := ⟨_, List.getElem?_eq_getElem (by have := Hkn.out; omega)⟩
      obtain ⟨hR, bk, ok, hAk, hbk, hck⟩ := Hkx.out k x hx
      subst hAk
      have hxr := Hk.out x (List.mem_of_getElem? hx)
      obtain ⟨xn, rfl⟩ : ∃ xn : Nat, x = xn := Int.eq_ofNat_of_zero_le (by omega)
      obtain ⟨⟨s, t⟩, ht⟩ : ∃ t, ts[xn]? = some t := ⟨_, List.getElem?_eq_getElem (by omega)⟩
      obtain ⟨b, o, hA, hb, h1, h2⟩ := Hx.out xn _ ht
      subst hA
      have HS : Hid (boolsF ts kids = if s = 1 then boolsF ts (kids.drop (k + 1)) else some (141, (xn : Int))) := by
        unfold Hid
        obtain ⟨hk', he⟩ := List.getElem?_eq_some_iff.1 hx
        rw [hd.out, List.drop_eq_getElem_cons hk', he, boolsF, List.find?_cons, sortAt_nat ht]
        by_cases h1 : s = 1 <;> simp [h1, boolsF]
      clear hx ht hd
      by_cases hs1 : s = 1
      · have hs1' : (s != 1) = false := by simp [hs1]
        have HS' : Hid (boolsF ts kids = boolsF ts (kids.drop (k + 1))) := by rw [HS.out, if_pos hs1]; rfl
        clear HS hs1
        go_wp2
        go_round
        case rel => exact ⟨k + 1, by omega, by go_num, HS'⟩
        case measure => simp [intOf]; try omega
      · have hs1' : (s != 1) = true := by simp [hs1]
        have HS' : Hid (boolsF ts kids = some (141, (xn : Int))) := by rw [HS.out, if_neg hs1]; rfl
        clear HS
        go_wp2_with (go_at_call 45; refine (sfault_c _ _ _).mono ?_; rintro e w' ⟨rfl, rfl⟩)
        go_ret
        rw [HS'.out]
        exact ⟨_, rfl, fltV_new (Below.refl _ _) _ _ rfl⟩
    · have hf : Hid (boolsF ts kids = none) := by rw [hd.out, List.drop_eq_nil_of_le (by have := Hkn.out; omega)]; rfl
      clear hd
      go_wp2
      go_ret
      rw [hf.out]
      exact ⟨_, rfl, Below.refl _ _, rfl⟩
end Go.Proofs.YtldnkeackphilaaGreatDoor
