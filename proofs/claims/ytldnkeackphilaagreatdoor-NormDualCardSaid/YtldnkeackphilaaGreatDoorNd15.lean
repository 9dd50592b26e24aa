/- sorts: set. -/
import Derived.Test.YtldnkeackphilaaGreatDoorNd14
import Derived.BigRegion
import Derived.Deep.RegionWith
import Derived.Test.YtldnkeackphilaaGreatDoorNd1
set_option linter.unusedSimpArgs false
set_option linter.unusedVariables false
set_option linter.unusedSectionVars false
namespace Go.Proofs.YtldnkeackphilaaGreatDoor
open Go.RowKit

theorem setF_cons (ts : List (Int × Int)) (k0 : Int) (r : List Int) : setF ts (k0 :: r) = match (k0 :: r).find? (fun k => decide (sortAt ts k ≠ sortAt ts k0)) with
    | some k => .inl (146, k)
    | none => if sortAt ts k0 = 2 then .inr (4, 0) else .inr (5, 0) := rfl

set_option maxRecDepth 100000 in
set_option maxHeartbeats 2000000 in
theorem set_c (lb : Nat) (pv sv tv : Value) (ps : List Part) (sc : List Int) (ts : List (Int × Int)) (p : Part) (kv : Value) (w : World) (h : Look w lb pv sv tv ps sc ts) (hr : PartR w p kv)
    (hk : ∀ k ∈ p.kids, 0 ≤ k ∧ k < ts.length) :
    Calls Tryz.prog 87 #[.pointer (some ⟨lb, 0, none⟩), .agg #[.int .i64 p.kind, .string p.text, .int .i64 p.num, kv]] w (TypP w (setF ts p.kids)) := by
  obtain ⟨hc0, hc1, hc2, hlb, hP, hS, hT⟩ := id h
  obtain ⟨-, -, -, Ak, ck, rfl, hkl, hkx⟩ := hr
  obtain ⟨At, ct, rfl, htl, htx⟩ := id hT
  obtain ⟨kind, text, num, kids⟩ := p
  simp only at hk hkx hkl ⊢
  rcases kids with _ | ⟨k0, r⟩
  · have HS : Hid (setF ts [] = .inr (6, 0)) := rfl
    generalize setF ts [] = res at *
    clear htx hkx
    go_enter Tryz.func87, Tryz.ntmps87
    go_wp2
    exact bodyPost_ret (v := .tuple #[.agg #[.int .i64 6, .int .i64 0], .pointer none]) (by simp [results, Tryz.results87, go_sem]) rfl
      ⟨6, 0, _, rfl, by rw [HS.out]; exact ⟨⟨(by repeat (first | exact Below.refl _ _ | assumption | refine below_drewN ?_ _ | refine below_al ?_ _ | refine Below.setCell ?_ (by simp) _)), rfl⟩, rfl⟩⟩
  · have HS := Lib.hid (setF_cons ts k0 r)
    have hk0 := hk k0 (by simp)
    obtain ⟨kn, rfl⟩ := Int.eq_ofNat_of_zero_le hk0.1
    obtain ⟨-, bk, ok, rfl, hbk, hck0⟩ := hkx 0 kn rfl
    have hknl : kn < ts.length := by omega
    obtain ⟨⟨s0, d0⟩, ht0⟩ : ∃ t, ts[kn]? = some t := ⟨_, List.getElem?_eq_getElem hknl⟩
    obtain ⟨bt_, ot, rfl, hbt, hs0, -⟩ := htx kn _ ht0
    have hso : sortAt ts kn = s0 := sortAt_nat ht0
    rw [hso] at HS
    have Hkx := Lib.hid hkx
    have Hk := Lib.hid hk
    have Htx := Lib.hid htx
    have hlen : ((kn : Int) :: r).length = r.length + 1 := rfl
    rw [hlen] at hkl ⊢
    generalize hL : ((kn : Int) :: r) = L at *
    generalize hn : r.length + 1 = n at *
    have Hn : Hid (L.length = n) := hlen
    have hn1 : 1 ≤ n := by omega
    generalize setF ts L = res at *
    rw [Nat.add_zero] at hck0
    clear hkx hk htx hL hn ht0 hso hlen
    go_enter Tryz.func87, Tryz.ntmps87
    go_wp2
    go_quiet (fail)
    go_wp2
    generalize hW : (((w.alloc (.cells #[.int .i64 kind, .string text, .int .i64 num, .slice (some ⟨bk, ok, none⟩) n ck] 66)).alloc (.cells #[.int .i64 0, .int .i64 0] 129)).drewN nq) = W at *
    have HBW : Below w.heap.size w W := by rw [← hW]; exact (by repeat (first | exact Below.refl _ _ | assumption | refine below_drewN ?_ _ | refine below_al ?_ _ | refine Below.setCell ?_ (by simp) _))
    have hw0 : W.cell? ⟨w.heap.size + 1, 0, none⟩ = some (.int .i64 0) := by rw [← hW]; simp
    have hw1 : W.cell? ⟨w.heap.size + 1, 1, none⟩ = some (.int .i64 0) := by rw [← hW]; simp
    have hf0 : W.frozen? ⟨w.heap.size + 1, 0, none⟩ = false := by rw [← hW]; simp
    have hf1 : W.frozen? ⟨w.heap.size + 1, 1, none⟩ = false := by rw [← hW]; simp
    have hl2 := cell_below HBW hc2
    have hsz : w.heap.size + 1 < W.heap.size := by rw [← hW]; simp
    clear hW hck0 hs0 hc0 hc1 hc2
    go_loop [28] (fun i => ∃ k : Nat, k ≤ n ∧ i = .int .i64 k ∧ Hid (res = match (L.drop k).find? (fun k => decide (sortAt ts k ≠ s0)) with | some k => .inl (146, k) | none => if s0 = 2 then .inr (4, 0) else .inr (5, 0))) (fun i => n - (intOf i).toNat)
    case atStart => exact ⟨0, Nat.zero_le _, rfl, HS⟩
    case round =>
      obtain ⟨k, hkn, rfl, hd⟩ := hrel
      by_cases hlt : k < n
      · obtain ⟨x, hx⟩ : ∃ x, L[k]? = some x := ⟨_, List.getElem?_eq_getElem (by have := Hn.out; omega)⟩
        obtain ⟨hR, bk', ok', hAk, -, hck⟩ := Hkx.out k x hx
        obtain ⟨rfl, rfl⟩ : bk' = bk ∧ ok' = ok := by simpa using hAk.symm
        have hxr := Hk.out x (List.mem_of_getElem? hx)
        obtain ⟨xn, rfl⟩ : ∃ xn : Nat, x = xn := Int.eq_ofNat_of_zero_le (by omega)
        obtain ⟨⟨s, t⟩, ht⟩ : ∃ t, ts[xn]? = some t := ⟨_, List.getElem?_eq_getElem (by omega)⟩
        obtain ⟨b, o, hA, hb, h1, h2⟩ := Htx.out xn _ ht
        obtain ⟨rfl, rfl⟩ : b = bt_ ∧ o = ot := by simpa using hA.symm
        have hck' := cell_below HBW hck
        have h1' := cell_below HBW h1
        have HS2 : Hid (res = if s = s0 then (match (L.drop (k + 1)).find? (fun k => decide (sortAt ts k ≠ s0)) with | some k => .inl (146, k) | none => if s0 = 2 then .inr (4, 0) else .inr (5, 0)) else .inl (146, (xn : Int))) := by
          unfold Hid
          obtain ⟨hk', he⟩ := List.getElem?_eq_some_iff.1 hx
          rw [hd.out, List.drop_eq_getElem_cons hk', he, List.find?_cons, sortAt_nat ht]
          by_cases h1 : s = s0 <;> simp [h1]
        clear hx ht hd hck h1 h2 hAk hA
        by_cases hss : s = s0
        · have hss' : (s != s0) = false := by simpa using hss
          have HS3 : Hid (res = match (L.drop (k + 1)).find? (fun k => decide (sortAt ts k ≠ s0)) with | some k => .inl (146, k) | none => if s0 = 2 then .inr (4, 0) else .inr (5, 0)) := by rw [HS2.out, if_pos hss]; rfl
          clear HS2 hss
          go_wp2
          go_round
          case rel => exact ⟨k + 1, by omega, by go_num, HS3⟩
          case measure => simp [intOf]; try omega
        · have hss' : (s != s0) = true := by simpa using hss
          have HS3 : Hid (res = .inl (146, (xn : Int))) := by rw [HS2.out, if_neg hss]; rfl
          clear HS2 hss
          go_wp2_with (go_at_call 45; refine (sfault_c _ _ _).mono ?_; rintro e w' ⟨rfl, rfl⟩)
          exact bodyPost_ret (v := .tuple #[.agg #[.int .i64 0, .int .i64 0], .pointer (some ⟨W.heap.size, 0, none⟩)]) (by simp [results, Tryz.results87, go_sem, *]) rfl
            ⟨0, 0, _, rfl, by rw [HS3.out]; exact fltV_new (by repeat (first | exact Below.refl _ _ | assumption | refine below_drewN ?_ _ | refine below_al ?_ _ | refine Below.setCell ?_ (by simp) _)) _ _ (by simp [World.setCell])⟩
      · have HS3 : Hid (res = if s0 = 2 then .inr (4, 0) else .inr (5, 0)) := by
          unfold Hid
          rw [hd.out, List.drop_eq_nil_of_le (by have := Hn.out; omega)]; rfl
        clear hd
        by_cases h2 : s0 = 2
        · have HS4 : Hid (res = .inr (4, 0)) := by rw [HS3.out, if_pos h2]; rfl
          have h2' : (s0 == 2) = true := by simpa using h2
          clear HS3 h2
          go_wp2
          exact bodyPost_ret (v := .tuple #[.agg #[.int .i64 4, .int .i64 0], .pointer none]) (by simp [results, Tryz.results87, go_sem, *]) rfl
            ⟨4, 0, _, rfl, by rw [HS4.out]; exact ⟨⟨(by repeat (first | exact Below.refl _ _ | assumption | refine below_drewN ?_ _ | refine below_al ?_ _ | refine Below.setCell ?_ (by simp) _)), rfl⟩, rfl⟩⟩
        · have HS4 : Hid (res = .inr (5, 0)) := by rw [HS3.out, if_neg h2]; rfl
          have h2' : (s0 == 2) = false := by simpa using h2
          clear HS3 h2
          go_wp2
          exact bodyPost_ret (v := .tuple #[.agg #[.int .i64 5, .int .i64 0], .pointer none]) (by simp [results, Tryz.results87, go_sem, *]) rfl
            ⟨5, 0, _, rfl, by rw [HS4.out]; exact ⟨⟨(by repeat (first | exact Below.refl _ _ | assumption | refine below_drewN ?_ _ | refine below_al ?_ _ | refine Below.setCell ?_ (by simp) _)), rfl⟩, rfl⟩⟩
end Go.Proofs.YtldnkeackphilaaGreatDoor
namespace Go.Proofs.YtldnkeackphilaaGreatDoor
open Go.RowKit

def speaksF (s : Int) (i : Int) (p : Part) : (Int × Int) ⊕ (Int × Int) :=
  if p.kind = 10 then if s ≠ 2 then .inl (142, i) else if effectF p.text = false then .inl (147, i) else .inr (1, 2)
  else if ¬ (if p.kind = 17 ∨ p.kind = 18 then p.num = 2 ∧ s = 2 else p.num = 1 ∨ p.num = s) then .inl (142, i)
  else if p.kind = 14 then if keyF p.text = false then .inl (147, i) else .inr (2, p.num)
  else if p.kind = 15 then .inr (2, p.num)
  else if p.kind = 18 then if qnameF p.text = false then .inl (147, i) else .inr (3, p.num)
  else .inr (4, p.num)

set_option maxRecDepth 100000 in
set_option maxHeartbeats 2000000 in
theorem speaks_c (lb : Nat) (pv sv tv : Value) (ps : List Part) (sc : List Int) (ts : List (Int × Int)) (i : Nat) (p : Part) (s : Int) (w : World) (h : Look w lb pv sv tv ps sc ts) (hp : ps[i]? = some p)
    (hs : sc[i]? = some s) (htx : p.text.size ≤ 127) (hG : Glob w) :
    Calls Tryz.prog 88 #[.pointer (some ⟨lb, 0, none⟩), .int .i64 i] w (TypP w (speaksF s i p)) := by
  obtain ⟨hc0, hc1, hc2, hlb, hP, hS, -⟩ := h
  obtain ⟨Ap, cp, rfl, hpl, hpx⟩ := id hP
  obtain ⟨bp, op, kv, rfl, hbp, hr, h0, h1, h3, h4⟩ := hP.get hp
  have hil : i < ps.length := (List.getElem?_eq_some_iff.1 hp).1
  obtain ⟨As, cs, rfl, hsn, hsx⟩ := id hS
  have hsl : i < sc.length := (List.getElem?_eq_some_iff.1 hs).1
  obtain ⟨hsr, bs, os, rfl, hbs, hcs⟩ := hsx i s hs
  obtain ⟨-, -, -, Ak, ck, rfl, -, -⟩ := id hr
  obtain ⟨kind, text, num, kids⟩ := p
  simp only at *
  have HG := Lib.hid hG
  generalize kids.length = kn at *
  have HS : Hid (speaksF s i ⟨kind, text, num, kids⟩ = speaksF s i ⟨kind, text, num, []⟩) := rfl
  generalize speaksF s i ⟨kind, text, num, kids⟩ = res at *
  clear hpx hsx hs hP hr hS hp hG
  go_enter Tryz.func88, Tryz.ntmps88
  go_wp2
  go_region
  generalize hW : ((w.alloc (.cells #[.int .i64 0, .int .i64 0] 129)).alloc (.cells #[.int .i64 kind, .string text, .int .i64 num, .slice Ak kn ck] 66)).drew = W at *
  have HBW : Below w.heap.size w W := by rw [← hW]; exact below_drewN (by repeat (first | exact Below.refl _ _ | assumption | refine below_drewN ?_ _ | refine below_al ?_ _ | refine Below.setCell ?_ (by simp) _)) 1
  have hk0 : W.cell? ⟨w.heap.size + 1, 0, none⟩ = some (.int .i64 kind) := by rw [← hW]; simp
  have hk1 : W.cell? ⟨w.heap.size + 1, 1, none⟩ = some (.string text) := by rw [← hW]; simp
  have hk2 : W.cell? ⟨w.heap.size + 1, 2, none⟩ = some (.int .i64 num) := by rw [← hW]; simp
  have hw0 : W.cell? ⟨w.heap.size, 0, none⟩ = some (.int .i64 0) := by rw [← hW]; simp
  have hw1 : W.cell? ⟨w.heap.size, 1, none⟩ = some (.int .i64 0) := by rw [← hW]; simp
  have hf0 : W.frozen? ⟨w.heap.size, 0, none⟩ = false := by rw [← hW]; simp
  have hf1 : W.frozen? ⟨w.heap.size, 1, none⟩ = false := by rw [← hW]; simp
  have hsz : w.heap.size + 1 < W.heap.size := by rw [← hW]; simp
  have hsz0 : w.heap.size < W.heap.size := by omega
  clear hW hc0 hc1 hc2 h0 h1 h3 h4 hcs
  by_cases k10 : kind = 10
  · subst k10
    by_cases hs2 : s = 2
    · subst hs2
      by_cases he : effectF text = true
      · skip
        have HS2 : Hid (res = .inr (1, 2)) := by unfold Hid; rw [HS.out]; simp [speaksF, he]
        clear HS
        go_wp2_with (first | (go_at_call 134; refine (isEffect_c _ _).mono ?_; rintro e w' ⟨rfl, hw⟩; obtain rfl := hw.symm) | (go_at_call 45; refine (sfault_c _ _ _).mono ?_; rintro e w' ⟨rfl, rfl⟩))
        all_goals exact bodyPost_ret (v := .tuple #[.agg #[.int .i64 1, .int .i64 2], .pointer none]) (by simp [results, Tryz.results88, go_sem, *]) rfl ⟨1, 2, _, rfl, by rw [HS2.out]; exact ⟨⟨(by repeat (first | exact Below.refl _ _ | assumption | refine below_drewN ?_ _ | refine below_al ?_ _ | refine Below.setCell ?_ (by simp) _)), rfl⟩, rfl⟩⟩
      · have he' : effectF text = false := by simpa using he
        have HS2 : Hid (res = .inl (147, (i : Int))) := by unfold Hid; rw [HS.out]; simp [speaksF, he]
        clear HS
        go_wp2_with (first | (go_at_call 134; refine (isEffect_c _ _).mono ?_; rintro e w' ⟨rfl, hw⟩; obtain rfl := hw.symm) | (go_at_call 45; refine (sfault_c _ _ _).mono ?_; rintro e w' ⟨rfl, rfl⟩))
        all_goals exact bodyPost_ret (v := .tuple #[.agg #[.int .i64 0, .int .i64 0], .pointer (some ⟨W.heap.size, 0, none⟩)]) (by simp [results, Tryz.results88, go_sem, *]) rfl ⟨0, 0, _, rfl, by rw [HS2.out]; exact fltV_new (by repeat (first | exact Below.refl _ _ | assumption | refine below_drewN ?_ _ | refine below_al ?_ _ | refine Below.setCell ?_ (by simp) _)) _ _ (by simp [World.setCell])⟩
    · have HS2 : Hid (res = .inl (142, (i : Int))) := by unfold Hid; rw [HS.out]; simp [speaksF, hs2]
      have hs2' : (s != 2) = true := by simpa using hs2
      clear HS
      go_wp2_with (first | (go_at_call 134; refine (isEffect_c _ _).mono ?_; rintro e w' ⟨rfl, hw⟩; obtain rfl := hw.symm) | (go_at_call 45; refine (sfault_c _ _ _).mono ?_; rintro e w' ⟨rfl, rfl⟩))
      all_goals exact bodyPost_ret (v := .tuple #[.agg #[.int .i64 0, .int .i64 0], .pointer (some ⟨W.heap.size, 0, none⟩)]) (by simp [results, Tryz.results88, go_sem, *]) rfl ⟨0, 0, _, rfl, by rw [HS2.out]; exact fltV_new (by repeat (first | exact Below.refl _ _ | assumption | refine below_drewN ?_ _ | refine below_al ?_ _ | refine Below.setCell ?_ (by simp) _)) _ _ (by simp [World.setCell])⟩
  · have k10' : (kind == 10) = false := by simpa using k10
    by_cases k14 : kind = 14
    · subst k14
      by_cases he : keyF text = true
      · skip
        have HS2 : Hid (res = if (num = 1 ∨ num = s) then .inr (2, num) else .inl (142, (i : Int))) := by unfold Hid; rw [HS.out]; simp only [speaksF, he]; by_cases hq : (num = 1 ∨ num = s) <;> simp [hq]
        clear HS
        go_wp2_with (first | (go_at_call 133; refine (isKey_c _ _ (by omega) (HG.out.below (by repeat (first | exact Below.refl _ _ | assumption | refine below_drewN ?_ _ | refine below_al ?_ _)))).mono ?_; rintro e w1 ⟨rfl, hB⟩; obtain ⟨hcb, hfb⟩ := bcell hB; have hB2 := hB.size; have hs1 : w.heap.size < w1.heap.size := (by omega); have HB : Below w.heap.size w w1 := HBW.trans (hB.mono (by omega)); clear hB) | (go_at_call 45; refine (sfault_c _ _ _).mono ?_; rintro e w' ⟨rfl, rfl⟩))
        all_goals first
          | (have HS3 : res = .inl (142, (i : Int)) := by rw [HS2.out, if_neg (by (try simp only [Bool.not_eq_false', Bool.not_eq_false, Bool.not_false, Bool.not_eq_true', Bool.not_eq_true, Bool.not_eq_eq_eq_not, Bool.not_true, beq_eq_false_iff_ne, beq_iff_eq, ne_eq, Bool.and_eq_true, Bool.or_eq_true] at *); omega)]
             clear HS2
             exact bodyPost_ret (v := .tuple #[.agg #[.int .i64 0, .int .i64 0], .pointer (some ⟨W.heap.size, 0, none⟩)]) (by simp [results, Tryz.results88, go_sem, *]) rfl ⟨0, 0, _, rfl, by rw [HS3]; exact fltV_new (by repeat (first | exact Below.refl _ _ | assumption | refine below_drewN ?_ _ | refine below_al ?_ _ | refine Below.setCell ?_ (by simp) _)) _ _ (by simp [World.setCell])⟩)
          | (have HS3 : res = .inr (2, num) := by rw [HS2.out, if_pos (by (try simp only [Bool.not_eq_false', Bool.not_eq_false, Bool.not_false, Bool.not_eq_true', Bool.not_eq_true, Bool.not_eq_eq_eq_not, Bool.not_true, beq_eq_false_iff_ne, beq_iff_eq, ne_eq, Bool.and_eq_true, Bool.or_eq_true] at *); omega)]
             clear HS2
             first | exact bodyPost_ret (v := .tuple #[.agg #[.int .i64 2, .int .i64 num], .pointer none]) (by simp [results, Tryz.results88, go_sem, *]) rfl ⟨2, num, _, rfl, by rw [HS3]; exact ⟨⟨(by repeat (first | exact Below.refl _ _ | assumption | refine below_drewN ?_ _ | refine below_al ?_ _ | refine Below.setCell ?_ (by simp) _)), rfl⟩, rfl⟩⟩ | exact bodyPost_ret (v := .tuple #[.agg #[.int .i64 2, .int .i64 1], .pointer none]) (by simp [results, Tryz.results88, go_sem, *]) rfl ⟨2, 1, _, rfl, by rw [HS3]; exact ⟨⟨(by repeat (first | exact Below.refl _ _ | assumption | refine below_drewN ?_ _ | refine below_al ?_ _ | refine Below.setCell ?_ (by simp) _)), rfl⟩, Prod.ext rfl (by show num = 1; assumption)⟩⟩ | exact bodyPost_ret (v := .tuple #[.agg #[.int .i64 2, .int .i64 2], .pointer none]) (by simp [results, Tryz.results88, go_sem, *]) rfl ⟨2, 2, _, rfl, by rw [HS3]; exact ⟨⟨(by repeat (first | exact Below.refl _ _ | assumption | refine below_drewN ?_ _ | refine below_al ?_ _ | refine Below.setCell ?_ (by simp) _)), rfl⟩, Prod.ext rfl (by show num = 2; assumption)⟩⟩)
      · have he' : keyF text = false := by simpa using he
        have HS2 : Hid (res = if (num = 1 ∨ num = s) then .inl (147, (i : Int)) else .inl (142, (i : Int))) := by unfold Hid; rw [HS.out]; simp only [speaksF, he]; by_cases hq : (num = 1 ∨ num = s) <;> simp [hq]
        clear HS
        go_wp2_with (first | (go_at_call 133; refine (isKey_c _ _ (by omega) (HG.out.below (by repeat (first | exact Below.refl _ _ | assumption | refine below_drewN ?_ _ | refine below_al ?_ _)))).mono ?_; rintro e w1 ⟨rfl, hB⟩; obtain ⟨hcb, hfb⟩ := bcell hB; have hB2 := hB.size; have hs1 : w.heap.size < w1.heap.size := (by omega); have HB : Below w.heap.size w w1 := HBW.trans (hB.mono (by omega)); clear hB) | (go_at_call 45; refine (sfault_c _ _ _).mono ?_; rintro e w' ⟨rfl, rfl⟩))
        all_goals first
          | (have HS3 : res = .inl (142, (i : Int)) := by rw [HS2.out, if_neg (by (try simp only [Bool.not_eq_false', Bool.not_eq_false, Bool.not_false, Bool.not_eq_true', Bool.not_eq_true, Bool.not_eq_eq_eq_not, Bool.not_true, beq_eq_false_iff_ne, beq_iff_eq, ne_eq, Bool.and_eq_true, Bool.or_eq_true] at *); omega)]
             clear HS2
             exact bodyPost_ret (v := .tuple #[.agg #[.int .i64 0, .int .i64 0], .pointer (some ⟨W.heap.size, 0, none⟩)]) (by simp [results, Tryz.results88, go_sem, *]) rfl ⟨0, 0, _, rfl, by rw [HS3]; exact fltV_new (by repeat (first | exact Below.refl _ _ | assumption | refine below_drewN ?_ _ | refine below_al ?_ _ | refine Below.setCell ?_ (by simp) _)) _ _ (by simp [World.setCell])⟩)
          | (have HS3 : res = .inl (147, (i : Int)) := by rw [HS2.out, if_pos (by (try simp only [Bool.not_eq_false', Bool.not_eq_false, Bool.not_false, Bool.not_eq_true', Bool.not_eq_true, Bool.not_eq_eq_eq_not, Bool.not_true, beq_eq_false_iff_ne, beq_iff_eq, ne_eq, Bool.and_eq_true, Bool.or_eq_true] at *); omega)]
             clear HS2
             exact bodyPost_ret (v := .tuple #[.agg #[.int .i64 0, .int .i64 0], .pointer (some ⟨w1.heap.size, 0, none⟩)]) (by simp [results, Tryz.results88, go_sem, *]) rfl ⟨0, 0, _, rfl, by rw [HS3]; exact fltV_new (by repeat (first | exact Below.refl _ _ | assumption | refine below_drewN ?_ _ | refine below_al ?_ _ | refine Below.setCell ?_ (by simp) _)) _ _ (by simp [World.setCell])⟩)
    have k14' : (kind == 14) = false := by simpa using k14
    by_cases k15 : kind = 15
    · subst k15
      have HS2 : Hid (res = if (num = 1 ∨ num = s) then .inr (2, num) else .inl (142, (i : Int))) := by unfold Hid; rw [HS.out]; simp only [speaksF]; by_cases hq : (num = 1 ∨ num = s) <;> simp [hq]
      clear HS
      go_wp2_with (first | (go_at_call 45; refine (sfault_c _ _ _).mono ?_; rintro e w' ⟨rfl, rfl⟩))
      all_goals first
        | (have HS3 : res = .inl (142, (i : Int)) := by rw [HS2.out, if_neg (by (try simp only [Bool.not_eq_false', Bool.not_eq_false, Bool.not_false, Bool.not_eq_true', Bool.not_eq_true, Bool.not_eq_eq_eq_not, Bool.not_true, beq_eq_false_iff_ne, beq_iff_eq, ne_eq, Bool.and_eq_true, Bool.or_eq_true] at *); omega)]
           clear HS2
           exact bodyPost_ret (v := .tuple #[.agg #[.int .i64 0, .int .i64 0], .pointer (some ⟨W.heap.size, 0, none⟩)]) (by simp [results, Tryz.results88, go_sem, *]) rfl ⟨0, 0, _, rfl, by rw [HS3]; exact fltV_new (by repeat (first | exact Below.refl _ _ | assumption | refine below_drewN ?_ _ | refine below_al ?_ _ | refine Below.setCell ?_ (by simp) _)) _ _ (by simp [World.setCell])⟩)
        | (have HS3 : res = .inr (2, num) := by rw [HS2.out, if_pos (by (try simp only [Bool.not_eq_false', Bool.not_eq_false, Bool.not_false, Bool.not_eq_true', Bool.not_eq_true, Bool.not_eq_eq_eq_not, Bool.not_true, beq_eq_false_iff_ne, beq_iff_eq, ne_eq, Bool.and_eq_true, Bool.or_eq_true] at *); omega)]
           clear HS2
           first | exact bodyPost_ret (v := .tuple #[.agg #[.int .i64 2, .int .i64 num], .pointer none]) (by simp [results, Tryz.results88, go_sem, *]) rfl ⟨2, num, _, rfl, by rw [HS3]; exact ⟨⟨(by repeat (first | exact Below.refl _ _ | assumption | refine below_drewN ?_ _ | refine below_al ?_ _ | refine Below.setCell ?_ (by simp) _)), rfl⟩, rfl⟩⟩ | exact bodyPost_ret (v := .tuple #[.agg #[.int .i64 2, .int .i64 1], .pointer none]) (by simp [results, Tryz.results88, go_sem, *]) rfl ⟨2, 1, _, rfl, by rw [HS3]; exact ⟨⟨(by repeat (first | exact Below.refl _ _ | assumption | refine below_drewN ?_ _ | refine below_al ?_ _ | refine Below.setCell ?_ (by simp) _)), rfl⟩, Prod.ext rfl (by show num = 1; assumption)⟩⟩ | exact bodyPost_ret (v := .tuple #[.agg #[.int .i64 2, .int .i64 2], .pointer none]) (by simp [results, Tryz.results88, go_sem, *]) rfl ⟨2, 2, _, rfl, by rw [HS3]; exact ⟨⟨(by repeat (first | exact Below.refl _ _ | assumption | refine below_drewN ?_ _ | refine below_al ?_ _ | refine Below.setCell ?_ (by simp) _)), rfl⟩, Prod.ext rfl (by show num = 2; assumption)⟩⟩)
    have k15' : (kind == 15) = false := by simpa using k15
    by_cases k18 : kind = 18
    · subst k18
      by_cases he : qnameF text = true
      · skip
        have HS2 : Hid (res = if (num = 2 ∧ s = 2) then .inr (3, num) else .inl (142, (i : Int))) := by unfold Hid; rw [HS.out]; simp only [speaksF, he]; by_cases hq : (num = 2 ∧ s = 2) <;> simp [hq]
        clear HS
        go_wp2_with (first | (go_at_call 135; refine (qname_c _ _).mono ?_; rintro e w' ⟨rfl, hw⟩; obtain rfl := hw.symm) | (go_at_call 45; refine (sfault_c _ _ _).mono ?_; rintro e w' ⟨rfl, rfl⟩))
        all_goals first
          | (have HS3 : res = .inl (142, (i : Int)) := by rw [HS2.out, if_neg (by (try simp only [Bool.not_eq_false', Bool.not_eq_false, Bool.not_false, Bool.not_eq_true', Bool.not_eq_true, Bool.not_eq_eq_eq_not, Bool.not_true, beq_eq_false_iff_ne, beq_iff_eq, ne_eq, Bool.and_eq_true, Bool.or_eq_true] at *); omega)]
             clear HS2
             exact bodyPost_ret (v := .tuple #[.agg #[.int .i64 0, .int .i64 0], .pointer (some ⟨W.heap.size, 0, none⟩)]) (by simp [results, Tryz.results88, go_sem, *]) rfl ⟨0, 0, _, rfl, by rw [HS3]; exact fltV_new (by repeat (first | exact Below.refl _ _ | assumption | refine below_drewN ?_ _ | refine below_al ?_ _ | refine Below.setCell ?_ (by simp) _)) _ _ (by simp [World.setCell])⟩)
          | (have HS3 : res = .inr (3, num) := by rw [HS2.out, if_pos (by (try simp only [Bool.not_eq_false', Bool.not_eq_false, Bool.not_false, Bool.not_eq_true', Bool.not_eq_true, Bool.not_eq_eq_eq_not, Bool.not_true, beq_eq_false_iff_ne, beq_iff_eq, ne_eq, Bool.and_eq_true, Bool.or_eq_true] at *); omega)]
             clear HS2
             first | exact bodyPost_ret (v := .tuple #[.agg #[.int .i64 3, .int .i64 num], .pointer none]) (by simp [results, Tryz.results88, go_sem, *]) rfl ⟨3, num, _, rfl, by rw [HS3]; exact ⟨⟨(by repeat (first | exact Below.refl _ _ | assumption | refine below_drewN ?_ _ | refine below_al ?_ _ | refine Below.setCell ?_ (by simp) _)), rfl⟩, rfl⟩⟩ | exact bodyPost_ret (v := .tuple #[.agg #[.int .i64 3, .int .i64 1], .pointer none]) (by simp [results, Tryz.results88, go_sem, *]) rfl ⟨3, 1, _, rfl, by rw [HS3]; exact ⟨⟨(by repeat (first | exact Below.refl _ _ | assumption | refine below_drewN ?_ _ | refine below_al ?_ _ | refine Below.setCell ?_ (by simp) _)), rfl⟩, Prod.ext rfl (by show num = 1; assumption)⟩⟩ | exact bodyPost_ret (v := .tuple #[.agg #[.int .i64 3, .int .i64 2], .pointer none]) (by simp [results, Tryz.results88, go_sem, *]) rfl ⟨3, 2, _, rfl, by rw [HS3]; exact ⟨⟨(by repeat (first | exact Below.refl _ _ | assumption | refine below_drewN ?_ _ | refine below_al ?_ _ | refine Below.setCell ?_ (by simp) _)), rfl⟩, Prod.ext rfl (by show num = 2; assumption)⟩⟩)
      · have he' : qnameF text = false := by simpa using he
        have HS2 : Hid (res = if (num = 2 ∧ s = 2) then .inl (147, (i : Int)) else .inl (142, (i : Int))) := by unfold Hid; rw [HS.out]; simp only [speaksF, he]; by_cases hq : (num = 2 ∧ s = 2) <;> simp [hq]
        clear HS
        go_wp2_with (first | (go_at_call 135; refine (qname_c _ _).mono ?_; rintro e w' ⟨rfl, hw⟩; obtain rfl := hw.symm) | (go_at_call 45; refine (sfault_c _ _ _).mono ?_; rintro e w' ⟨rfl, rfl⟩))
        all_goals first
          | (have HS3 : res = .inl (142, (i : Int)) := by rw [HS2.out, if_neg (by (try simp only [Bool.not_eq_false', Bool.not_eq_false, Bool.not_false, Bool.not_eq_true', Bool.not_eq_true, Bool.not_eq_eq_eq_not, Bool.not_true, beq_eq_false_iff_ne, beq_iff_eq, ne_eq, Bool.and_eq_true, Bool.or_eq_true] at *); omega)]
             clear HS2
             exact bodyPost_ret (v := .tuple #[.agg #[.int .i64 0, .int .i64 0], .pointer (some ⟨W.heap.size, 0, none⟩)]) (by simp [results, Tryz.results88, go_sem, *]) rfl ⟨0, 0, _, rfl, by rw [HS3]; exact fltV_new (by repeat (first | exact Below.refl _ _ | assumption | refine below_drewN ?_ _ | refine below_al ?_ _ | refine Below.setCell ?_ (by simp) _)) _ _ (by simp [World.setCell])⟩)
          | (have HS3 : res = .inl (147, (i : Int)) := by rw [HS2.out, if_pos (by (try simp only [Bool.not_eq_false', Bool.not_eq_false, Bool.not_false, Bool.not_eq_true', Bool.not_eq_true, Bool.not_eq_eq_eq_not, Bool.not_true, beq_eq_false_iff_ne, beq_iff_eq, ne_eq, Bool.and_eq_true, Bool.or_eq_true] at *); omega)]
             clear HS2
             exact bodyPost_ret (v := .tuple #[.agg #[.int .i64 0, .int .i64 0], .pointer (some ⟨W.heap.size, 0, none⟩)]) (by simp [results, Tryz.results88, go_sem, *]) rfl ⟨0, 0, _, rfl, by rw [HS3]; exact fltV_new (by repeat (first | exact Below.refl _ _ | assumption | refine below_drewN ?_ _ | refine below_al ?_ _ | refine Below.setCell ?_ (by simp) _)) _ _ (by simp [World.setCell])⟩)
    have k18' : (kind == 18) = false := by simpa using k18
    by_cases k17 : kind = 17
    · subst k17
      have HS2 : Hid (res = if (num = 2 ∧ s = 2) then .inr (4, num) else .inl (142, (i : Int))) := by unfold Hid; rw [HS.out]; simp only [speaksF]; by_cases hq : (num = 2 ∧ s = 2) <;> simp [hq]
      clear HS
      go_wp2_with (first | (go_at_call 45; refine (sfault_c _ _ _).mono ?_; rintro e w' ⟨rfl, rfl⟩))
      all_goals first
        | (have HS3 : res = .inl (142, (i : Int)) := by rw [HS2.out, if_neg (by (try simp only [Bool.not_eq_false', Bool.not_eq_false, Bool.not_false, Bool.not_eq_true', Bool.not_eq_true, Bool.not_eq_eq_eq_not, Bool.not_true, beq_eq_false_iff_ne, beq_iff_eq, ne_eq, Bool.and_eq_true, Bool.or_eq_true] at *); omega)]
           clear HS2
           exact bodyPost_ret (v := .tuple #[.agg #[.int .i64 0, .int .i64 0], .pointer (some ⟨W.heap.size, 0, none⟩)]) (by simp [results, Tryz.results88, go_sem, *]) rfl ⟨0, 0, _, rfl, by rw [HS3]; exact fltV_new (by repeat (first | exact Below.refl _ _ | assumption | refine below_drewN ?_ _ | refine below_al ?_ _ | refine Below.setCell ?_ (by simp) _)) _ _ (by simp [World.setCell])⟩)
        | (have HS3 : res = .inr (4, num) := by rw [HS2.out, if_pos (by (try simp only [Bool.not_eq_false', Bool.not_eq_false, Bool.not_false, Bool.not_eq_true', Bool.not_eq_true, Bool.not_eq_eq_eq_not, Bool.not_true, beq_eq_false_iff_ne, beq_iff_eq, ne_eq, Bool.and_eq_true, Bool.or_eq_true] at *); omega)]
           clear HS2
           first | exact bodyPost_ret (v := .tuple #[.agg #[.int .i64 4, .int .i64 num], .pointer none]) (by simp [results, Tryz.results88, go_sem, *]) rfl ⟨4, num, _, rfl, by rw [HS3]; exact ⟨⟨(by repeat (first | exact Below.refl _ _ | assumption | refine below_drewN ?_ _ | refine below_al ?_ _ | refine Below.setCell ?_ (by simp) _)), rfl⟩, rfl⟩⟩ | exact bodyPost_ret (v := .tuple #[.agg #[.int .i64 4, .int .i64 1], .pointer none]) (by simp [results, Tryz.results88, go_sem, *]) rfl ⟨4, 1, _, rfl, by rw [HS3]; exact ⟨⟨(by repeat (first | exact Below.refl _ _ | assumption | refine below_drewN ?_ _ | refine below_al ?_ _ | refine Below.setCell ?_ (by simp) _)), rfl⟩, Prod.ext rfl (by show num = 1; assumption)⟩⟩ | exact bodyPost_ret (v := .tuple #[.agg #[.int .i64 4, .int .i64 2], .pointer none]) (by simp [results, Tryz.results88, go_sem, *]) rfl ⟨4, 2, _, rfl, by rw [HS3]; exact ⟨⟨(by repeat (first | exact Below.refl _ _ | assumption | refine below_drewN ?_ _ | refine below_al ?_ _ | refine Below.setCell ?_ (by simp) _)), rfl⟩, Prod.ext rfl (by show num = 2; assumption)⟩⟩)
    have k17' : (kind == 17) = false := by simpa using k17
    have HS2 : Hid (res = if (num = 1 ∨ num = s) then .inr (4, num) else .inl (142, (i : Int))) := by unfold Hid; rw [HS.out]; simp only [speaksF, k10, k14, k15, k17, k18]; by_cases hq : (num = 1 ∨ num = s) <;> simp [hq]
    clear HS
    go_wp2_with (first | (go_at_call 45; refine (sfault_c _ _ _).mono ?_; rintro e w' ⟨rfl, rfl⟩))
    all_goals first
      | (have HS3 : res = .inl (142, (i : Int)) := by rw [HS2.out, if_neg (by (try simp only [Bool.not_eq_false', Bool.not_eq_false, Bool.not_false, Bool.not_eq_true', Bool.not_eq_true, Bool.not_eq_eq_eq_not, Bool.not_true, beq_eq_false_iff_ne, beq_iff_eq, ne_eq, Bool.and_eq_true, Bool.or_eq_true] at *); omega)]
         clear HS2
         exact bodyPost_ret (v := .tuple #[.agg #[.int .i64 0, .int .i64 0], .pointer (some ⟨W.heap.size, 0, none⟩)]) (by simp [results, Tryz.results88, go_sem, *]) rfl ⟨0, 0, _, rfl, by rw [HS3]; exact fltV_new (by repeat (first | exact Below.refl _ _ | assumption | refine below_drewN ?_ _ | refine below_al ?_ _ | refine Below.setCell ?_ (by simp) _)) _ _ (by simp [World.setCell])⟩)
      | (have HS3 : res = .inr (4, num) := by rw [HS2.out, if_pos (by (try simp only [Bool.not_eq_false', Bool.not_eq_false, Bool.not_false, Bool.not_eq_true', Bool.not_eq_true, Bool.not_eq_eq_eq_not, Bool.not_true, beq_eq_false_iff_ne, beq_iff_eq, ne_eq, Bool.and_eq_true, Bool.or_eq_true] at *); omega)]
         clear HS2
         first | exact bodyPost_ret (v := .tuple #[.agg #[.int .i64 4, .int .i64 num], .pointer none]) (by simp [results, Tryz.results88, go_sem, *]) rfl ⟨4, num, _, rfl, by rw [HS3]; exact ⟨⟨(by repeat (first | exact Below.refl _ _ | assumption | refine below_drewN ?_ _ | refine below_al ?_ _ | refine Below.setCell ?_ (by simp) _)), rfl⟩, rfl⟩⟩ | exact bodyPost_ret (v := .tuple #[.agg #[.int .i64 4, .int .i64 1], .pointer none]) (by simp [results, Tryz.results88, go_sem, *]) rfl ⟨4, 1, _, rfl, by rw [HS3]; exact ⟨⟨(by repeat (first | exact Below.refl _ _ | assumption | refine below_drewN ?_ _ | refine below_al ?_ _ | refine Below.setCell ?_ (by simp) _)), rfl⟩, Prod.ext rfl (by show num = 1; assumption)⟩⟩ | exact bodyPost_ret (v := .tuple #[.agg #[.int .i64 4, .int .i64 2], .pointer none]) (by simp [results, Tryz.results88, go_sem, *]) rfl ⟨4, 2, _, rfl, by rw [HS3]; exact ⟨⟨(by repeat (first | exact Below.refl _ _ | assumption | refine below_drewN ?_ _ | refine below_al ?_ _ | refine Below.setCell ?_ (by simp) _)), rfl⟩, Prod.ext rfl (by show num = 2; assumption)⟩⟩)
end Go.Proofs.YtldnkeackphilaaGreatDoor
namespace Go.Proofs.YtldnkeackphilaaGreatDoor
open Go.RowKit

def orElse (f : Option (Int × Int)) (t : Int × Int) : (Int × Int) ⊕ (Int × Int) := match f with | some f => .inl f | none => .inr t
def kindOf (ps : List Part) (k : Int) : Int := (ps[k.toNat]?.map (·.kind)).getD 0
def typeF (ps : List Part) (sc : List Int) (ts : List (Int × Int)) (i : Int) (p : Part) : (Int × Int) ⊕ (Int × Int) :=
  if p.kind = 1 ∨ p.kind = 2 then .inr (1, 0)
  else if p.kind = 3 ∨ p.kind = 4 ∨ p.kind = 5 then orElse (boolsF ts p.kids) (1, joinedF ts p.kids)
  else if p.kind = 6 ∨ p.kind = 7 then orElse (sidesF ts i p) (1, joinedF ts p.kids)
  else if p.kind = 8 ∨ p.kind = 9 then orElse (selectorF sc ts i p) (1, 2)
  else if p.kind = 20 then orElse (selectorF sc ts i p) (3, 2)
  else if p.kind = 11 then .inr (2, 0)
  else if p.kind = 12 then .inr (3, 0)
  else if p.kind = 13 then setF ts p.kids
  else if p.kind = 19 then
    if kindOf ps (p.kids.headD 0) ≠ 14 ∧ kindOf ps (p.kids.headD 0) ≠ 11 then .inl (148, p.kids.headD 0) else .inr (3, sideAt ts (p.kids.headD 0))
  else speaksF (sc.getD i.toNat 0) i p
theorem FltV.stored {w0 w : World} (hb : Below w0.heap.size w0 w) {r : Option (Int × Int)} {v : Value} {w' : World} (h : Below w.heap.size w w' ∧ FltV w0 r v w' ∧ ∀ b o, v = .pointer (some ⟨b, o, none⟩) → w.heap.size ≤ b) (b o : Nat) (x : Value) (h1 : w0.heap.size ≤ b) (h2 : b < w.heap.size) : FltV w0 r v (w'.setCell ⟨b, o, none⟩ x) := by
  refine ⟨Below.setCell h.2.1.1 h1 x, ?_⟩
  have h3 := h.2.1.2
  rcases r with _ | ⟨c, pl⟩
  · exact h3
  · obtain ⟨b', e, h4, h5⟩ := h3
    have h6 := h.2.2 b' 0 e
    exact ⟨b', e, h4, (Below.heap_setCell _ _ _ _ (by simp; omega)).trans h5⟩

theorem FltV.ptr {w : World} {r : Option (Int × Int)} {v : Value} {w' : World} (h : FltV w r v w') : ∀ b o, v = .pointer (some ⟨b, o, none⟩) → w.heap.size ≤ b := by
  intro b o he
  have h2 := h.2
  rcases r with _ | ⟨c, pl⟩
  · exact absurd (he.symm.trans h2) (by simp)
  · obtain ⟨b', e, h4, -⟩ := h2
    have := he.symm.trans e
    simp at this
    omega
theorem FltV.put {w0 W w : World} (hb : Below w0.heap.size w0 W) (hW : Below W.heap.size W w) {r : Option (Int × Int)} {v : Value} {w' : World} (h : FltV w r v w') (b o o' : Nat) (x y : Value) (h1 : w0.heap.size ≤ b) (h2 : b < W.heap.size) : FltV w0 r v ((w'.setCell ⟨b, o, none⟩ x).setCell ⟨b, o', none⟩ y) := by
  have hf := h.from hW
  have h0 := hf.from hb
  have hp := hf.ptr
  have ha := FltV.stored hb ⟨hf.1, h0, hp⟩ b o x h1 h2
  refine ⟨Below.setCell ha.1 h1 y, ?_⟩
  have h3 := ha.2
  rcases r with _ | ⟨c, pl⟩
  · exact h3
  · obtain ⟨b', e, h4, h5⟩ := h3
    have h6 := hp b' 0 e
    exact ⟨b', e, h4, (Below.heap_setCell _ _ _ _ (by simp; omega)).trans h5⟩

def TypR (w : World) (r : (Int × Int) ⊕ (Int × Int)) (s d : Int) (fv : Value) (w' : World) : Prop :=
  match r with
  | .inl f => FltV w (some f) fv w'
  | .inr t => FltV w none fv w' ∧ t = (s, d)
theorem TypR.put {w0 W w' : World} (hb : Below w0.heap.size w0 W) {r : (Int × Int) ⊕ (Int × Int)} {s d : Int} {fv : Value} (h : TypR W r s d fv w') (b o o' : Nat) (x y : Value) (h1 : w0.heap.size ≤ b) (h2 : b < W.heap.size) : TypR w0 r s d fv ((w'.setCell ⟨b, o, none⟩ x).setCell ⟨b, o', none⟩ y) := by
  rcases r with f | t
  · exact FltV.put (r := some f) hb (Below.refl _ _) h b o o' x y h1 h2
  · exact ⟨FltV.put hb (Below.refl _ _) h.1 b o o' x y h1 h2, h.2⟩
theorem FltV.rec_below {w : World} {r : Option (Int × Int)} {v : Value} {w' : World} (h : FltV w r v w') : Below w.heap.size w w' := h.1
theorem TypR.else {w : World} {f : Option (Int × Int)} {s d : Int} {v : Value} {w' : World} (h : FltV w f v w') : TypR w (orElse f (s, d)) s d v w' := by
  rcases f with _ | f
  · exact ⟨h, rfl⟩
  · exact h
structure Two (w W : World) (a b : Array Value) : Prop where
  below : Below w.heap.size w W
  size : w.heap.size + 1 < W.heap.size
  size0 : w.heap.size < W.heap.size
  c0 : ∀ i, W.cell? ⟨w.heap.size, i, none⟩ = a[i]?
  c1 : ∀ i, W.cell? ⟨w.heap.size + 1, i, none⟩ = b[i]?
  f0 : ∀ i, W.frozen? ⟨w.heap.size, i, none⟩ = false
  f1 : ∀ i, W.frozen? ⟨w.heap.size + 1, i, none⟩ = false
theorem two_new (w : World) (a b : Array Value) (s t : TypeId) : Two w ((w.alloc (.cells a s)).alloc (.cells b t)) a b := by
  have h0 : ((w.alloc (.cells a s)).alloc (.cells b t)).heap[w.heap.size]? = some (.cells a s (0, 0)) := (Below.heap_alloc _ _ _ (by simp)).trans (heap_alloc_new w _)
  have h1 : ((w.alloc (.cells a s)).alloc (.cells b t)).heap[w.heap.size + 1]? = some (.cells b t (0, 0)) := by
    have := heap_alloc_new (w.alloc (.cells a s)) (.cells b t)
    simpa using this
  exact ⟨(Below.refl _ _).alloc (Nat.le_refl _) _ |>.alloc (by simp) _, by simp, by simp; omega, fun i => cell_of_row _ _ i _ _ _ h0, fun i => cell_of_row _ _ i _ _ _ h1, fun i => by unfold World.frozen?; rw [h0]; simp, fun i => by unfold World.frozen?; rw [h1]; simp⟩

set_option maxRecDepth 100000 in
set_option maxHeartbeats 4000000 in
theorem part_c (lb : Nat) (pv sv tv : Value) (ps : List Part) (sc : List Int) (ts : List (Int × Int)) (i : Nat) (p : Part) (w : World) (h : Look w lb pv sv tv ps sc ts) (hp : ps[i]? = some p)
    (hk : ∀ k ∈ p.kids, 0 ≤ k ∧ k < ts.length) (hsl : i < sc.length) (hpf : partFitsF p = true) (htp : ts.length ≤ ps.length) (hG : Glob w) :
    Calls Tryz.prog 47 #[.pointer (some ⟨lb, 0, none⟩), .int .i64 i] w (TypP w (typeF ps sc ts i p)) := by
  obtain ⟨hc0, hc1, hc2, hlb, hP, hS, hT⟩ := id h
  have Hlook := Lib.hid h
  have Hp := Lib.hid hp
  obtain ⟨Ap, cp, rfl, hpl, hpx⟩ := id hP
  obtain ⟨bp, op, kv, rfl, hbp, hr, h0, h1, h3, h4⟩ := hP.get hp
  have hil : i < ps.length := (List.getElem?_eq_some_iff.1 hp).1
  have HG := Lib.hid hG
  have Hk := Lib.hid hk
  have HR := Lib.hid hr
  have HP := Lib.hid hP
  have HT := Lib.hid hT
  obtain ⟨-, -, -, Ak, ck, rfl, -, -⟩ := id hr
  have htx : p.text.size ≤ 127 := by simp only [partFitsF, Bool.and_eq_true, decide_eq_true_eq] at hpf; exact hpf.1.1.1.2
  have hkn : kidCountF p.kind p.kids.length = true := by simp only [partFitsF, Bool.and_eq_true, decide_eq_true_eq] at hpf; exact hpf.2
  have hkr : 1 ≤ p.kind ∧ p.kind ≤ 20 := by simp only [partFitsF, Bool.and_eq_true, decide_eq_true_eq] at hpf; exact hpf.1.1.1.1
  obtain ⟨sx, hsx⟩ : ∃ s, sc[i]? = some s := ⟨_, List.getElem?_eq_getElem hsl⟩
  have Hsx := Lib.hid hsx
  clear hpx hP hS hT hG hk hr hpf h hp hsx
  go_enter Tryz.func47, Tryz.ntmps47
  obtain ⟨kind, text, num, kids⟩ := p
  simp only at *
  have hks : (kind = 1 ∨ kind = 2) ∨ (kind = 3 ∨ kind = 4 ∨ kind = 5) ∨ (kind = 6 ∨ kind = 7) ∨ (kind = 8 ∨ kind = 9) ∨ kind = 20 ∨ kind = 11 ∨ kind = 12 ∨ kind = 13 ∨ kind = 19 ∨ (kind = 10 ∨ kind = 14 ∨ kind = 15 ∨ kind = 16 ∨ kind = 17 ∨ kind = 18) := by omega
  have hW2 := two_new w #[.int .i64 0, .int .i64 0] #[.int .i64 kind, .string text, .int .i64 num, .slice Ak kids.length ck] 129 66
  generalize hres : typeF ps sc ts i ⟨kind, text, num, kids⟩ = res
  have Hkn := Lib.hid hkn
  have Hres := Lib.hid hres
  clear hkn hres
  rcases hks with hks | hks | hks | hks | rfl | rfl | rfl | rfl | rfl | hks
  · rcases hks with rfl | rfl
    all_goals
      go_wp2_with fail
      exact bodyPost_ret (v := .tuple #[.agg #[.int .i64 1, .int .i64 0], .pointer none]) (by simp [results, Tryz.results47, go_sem, *]) rfl
        ⟨1, 0, _, rfl, by rw [← Hres.out]; exact ⟨⟨(by repeat (first | exact Below.refl _ _ | assumption | refine below_drewN ?_ _ | refine below_al ?_ _ | refine Below.setCell ?_ (by simp) _)), rfl⟩, rfl⟩⟩
  · rcases hks with rfl | rfl | rfl
    all_goals
      have HS : Hid (res = orElse (boolsF ts kids) (1, joinedF ts kids)) := Hres.out.symm
      clear Hres
      go_wp2_with fail
      generalize hW : ((w.alloc (.cells #[.int .i64 0, .int .i64 0] 129)).alloc (.cells #[.int .i64 _, .string text, .int .i64 num, .slice Ak kids.length ck] 66)) = W at *
      obtain ⟨HBW, hsz, hsz0, hw0, hw1, hf0, hf1⟩ := hW2
      clear hW hc0 hc1 hc2 h0 h1 h3 h4
      go_region_with (first
        | (go_at_call 83; refine (joined_c lb _ _ _ ps sc ts _ kids _ (Hlook.out.below (by first | exact HBW | exact below_drewN HBW 1)) (HR.out.2.2.2.below (by first | exact HBW | exact below_drewN HBW 1)) Hk.out).mono ?_; rintro e w' ⟨rfl, hw⟩; obtain rfl := hw.symm)
        | (go_at_call 84; refine (bools_c lb _ _ _ ps sc ts _ kids _ (Hlook.out.below (by first | exact HBW | exact below_drewN HBW 1)) (HR.out.2.2.2.below (by first | exact HBW | exact below_drewN HBW 1)) Hk.out).mono ?_; rintro e w2 ⟨v, rfl, hv⟩; have hcb : ∀ b o, b < W.heap.size → w2.cell? ⟨b, o, none⟩ = W.cell? ⟨b, o, none⟩ := (bcell hv.1).1; have hfb : ∀ b o, b < W.heap.size → w2.frozen? ⟨b, o, none⟩ = W.frozen? ⟨b, o, none⟩ := (bcell hv.1).2; have hB2 : W.heap.size ≤ w2.heap.size := hv.1.size; have hs2 : w.heap.size < w2.heap.size := (by omega)))
      all_goals
        go_wp2
        have hq := FltV.put HBW (below_drewN (Below.refl _ _) 1) hv w.heap.size 0 1 (.int .i64 1) (.int .i64 (joinedF ts kids)) (Nat.le_refl _) hsz0
        exact bodyPost_ret (v := .tuple #[.agg #[.int .i64 1, .int .i64 (joinedF ts kids)], v]) (by simp [results, Tryz.results47, go_sem, *]) rfl
          ⟨1, joinedF ts kids, v, rfl, HS.out ▸ TypR.else hq⟩
  · rcases hks with rfl | rfl
    all_goals
      have HS : Hid (res = orElse (sidesF ts i ⟨_, text, num, kids⟩) (1, joinedF ts kids)) := Hres.out.symm
      have hk2 : kids.length = 2 := by have := Hkn.out; simp [kidCountF] at this; omega
      have Hk2 := Lib.hid hk2
      clear Hres hk2
      go_wp2_with fail
      generalize hW : ((w.alloc (.cells #[.int .i64 0, .int .i64 0] 129)).alloc (.cells #[.int .i64 _, .string text, .int .i64 num, .slice Ak kids.length ck] 66)) = W at *
      obtain ⟨HBW, hsz, hsz0, hw0, hw1, hf0, hf1⟩ := hW2
      clear hW hc0 hc1 hc2 h0 h1 h3 h4
      refine (joined_c lb _ _ _ ps sc ts _ kids _ (Hlook.out.below HBW) (HR.out.2.2.2.below HBW) Hk.out).mono ?_
      rintro e w' ⟨rfl, hw⟩
      obtain rfl := hw.symm
      go_wp2_with fail
      refine (sides_c lb _ _ _ ps sc ts i _ _ (Hlook.out.below HBW) Hp.out Hk.out Hk2.out).mono ?_
      rintro e w2 ⟨v, rfl, hv⟩
      obtain ⟨hcb, hfb⟩ := bcell hv.1
      have hB2 : W.heap.size ≤ w2.heap.size := hv.1.size
      have hs2 : w.heap.size < w2.heap.size := by omega
      go_wp2
      have hq := FltV.put HBW (Below.refl _ _) hv w.heap.size 0 1 (.int .i64 1) (.int .i64 (joinedF ts kids)) (Nat.le_refl _) hsz0
      exact bodyPost_ret (v := .tuple #[.agg #[.int .i64 1, .int .i64 (joinedF ts kids)], v]) (by simp [results, Tryz.results47, go_sem, *]) rfl
        ⟨1, joinedF ts kids, v, rfl, HS.out ▸ TypR.else hq⟩
  · rcases hks with rfl | rfl
    all_goals
      have HS : Hid (res = orElse (selectorF sc ts i ⟨_, text, num, kids⟩) (1, 2)) := Hres.out.symm
      clear Hres
      go_wp2_with fail
      generalize hW : ((w.alloc (.cells #[.int .i64 0, .int .i64 0] 129)).alloc (.cells #[.int .i64 _, .string text, .int .i64 num, .slice Ak kids.length ck] 66)) = W at *
      obtain ⟨HBW, hsz, hsz0, hw0, hw1, hf0, hf1⟩ := hW2
      clear hW hc0 hc1 hc2 h0 h1 h3 h4
      refine (selector_c lb _ _ _ ps sc ts i _ _ (Hlook.out.below HBW) Hp.out Hk.out hsl htx (HG.out.below HBW)).mono ?_
      rintro e w2 ⟨v, rfl, hv⟩
      obtain ⟨hcb, hfb⟩ := bcell hv.1
      have hB2 : W.heap.size ≤ w2.heap.size := hv.1.size
      have hs2 : w.heap.size < w2.heap.size := by omega
      go_wp2
      have hq := FltV.put HBW (Below.refl _ _) hv w.heap.size 0 1 (.int .i64 1) (.int .i64 2) (Nat.le_refl _) hsz0
      exact bodyPost_ret (v := .tuple #[.agg #[.int .i64 1, .int .i64 2], v]) (by simp [results, Tryz.results47, go_sem, *]) rfl
        ⟨1, 2, v, rfl, HS.out ▸ TypR.else hq⟩
  · have HS : Hid (res = orElse (selectorF sc ts i ⟨20, text, num, kids⟩) (3, 2)) := Hres.out.symm
    clear Hres
    go_wp2_with fail
    generalize hW : ((w.alloc (.cells #[.int .i64 0, .int .i64 0] 129)).alloc (.cells #[.int .i64 _, .string text, .int .i64 num, .slice Ak kids.length ck] 66)) = W at *
    obtain ⟨HBW, hsz, hsz0, hw0, hw1, hf0, hf1⟩ := hW2
    clear hW hc0 hc1 hc2 h0 h1 h3 h4
    refine (selector_c lb _ _ _ ps sc ts i _ _ (Hlook.out.below HBW) Hp.out Hk.out hsl htx (HG.out.below HBW)).mono ?_
    rintro e w2 ⟨v, rfl, hv⟩
    obtain ⟨hcb, hfb⟩ := bcell hv.1
    have hB2 : W.heap.size ≤ w2.heap.size := hv.1.size
    have hs2 : w.heap.size < w2.heap.size := by omega
    go_wp2
    have hq := FltV.put HBW (Below.refl _ _) hv w.heap.size 0 1 (.int .i64 3) (.int .i64 2) (Nat.le_refl _) hsz0
    exact bodyPost_ret (v := .tuple #[.agg #[.int .i64 3, .int .i64 2], v]) (by simp [results, Tryz.results47, go_sem, *]) rfl
      ⟨3, 2, v, rfl, HS.out ▸ TypR.else hq⟩
  · go_wp2_with fail
    exact bodyPost_ret (v := .tuple #[.agg #[.int .i64 2, .int .i64 0], .pointer none]) (by simp [results, Tryz.results47, go_sem, *]) rfl
      ⟨2, 0, _, rfl, by rw [← Hres.out]; exact ⟨⟨(by repeat (first | exact Below.refl _ _ | assumption | refine below_drewN ?_ _ | refine below_al ?_ _ | refine Below.setCell ?_ (by simp) _)), rfl⟩, rfl⟩⟩
  · go_wp2_with fail
    exact bodyPost_ret (v := .tuple #[.agg #[.int .i64 3, .int .i64 0], .pointer none]) (by simp [results, Tryz.results47, go_sem, *]) rfl
      ⟨3, 0, _, rfl, by rw [← Hres.out]; exact ⟨⟨(by repeat (first | exact Below.refl _ _ | assumption | refine below_drewN ?_ _ | refine below_al ?_ _ | refine Below.setCell ?_ (by simp) _)), rfl⟩, rfl⟩⟩
  · have HS : Hid (res = setF ts kids) := Hres.out.symm
    clear Hres
    go_wp2_with fail
    generalize hW : ((w.alloc (.cells #[.int .i64 0, .int .i64 0] 129)).alloc (.cells #[.int .i64 _, .string text, .int .i64 num, .slice Ak kids.length ck] 66)) = W at *
    obtain ⟨HBW, hsz, hsz0, hw0, hw1, hf0, hf1⟩ := hW2
    clear hW hc0 hc1 hc2 h0 h1 h3 h4
    refine (set_c lb _ _ _ ps sc ts ⟨13, text, num, kids⟩ _ _ (Hlook.out.below HBW) (HR.out.below HBW) Hk.out).mono ?_
    rintro e w2 ⟨s, d, v, rfl, hv⟩
    have hB : Below W.heap.size W w2 := by
      revert hv
      rcases setF ts kids with f | t
      · exact fun h => FltV.rec_below h
      · exact fun h => FltV.rec_below h.1
    obtain ⟨hcb, hfb⟩ := bcell hB
    have hB2 : W.heap.size ≤ w2.heap.size := hB.size
    have hs2 : w.heap.size < w2.heap.size := by omega
    clear hB
    go_wp2
    have hq := TypR.put HBW (r := setF ts kids) hv w.heap.size 0 1 (.int .i64 s) (.int .i64 d) (Nat.le_refl _) hsz0
    exact bodyPost_ret (v := .tuple #[.agg #[.int .i64 s, .int .i64 d], v]) (by simp [results, Tryz.results47, go_sem, *]) rfl
      ⟨s, d, v, rfl, HS.out ▸ hq⟩
  · have HS : Hid (res = if kindOf ps (kids.headD 0) ≠ 14 ∧ kindOf ps (kids.headD 0) ≠ 11 then .inl (148, kids.headD 0) else .inr (3, sideAt ts (kids.headD 0))) := Hres.out.symm
    have hk1 : kids.length = 1 := by have := Hkn.out; simp [kidCountF] at this; omega
    obtain ⟨k0, rfl⟩ : ∃ k, kids = [k] := by
      rcases kids with _ | ⟨k, _ | ⟨j, r⟩⟩ <;> simp at hk1
      exact ⟨k, rfl⟩
    have hk0 := Hk.out k0 (by simp)
    obtain ⟨kn, rfl⟩ := Int.eq_ofNat_of_zero_le hk0.1
    obtain ⟨-, bk, ok, rfl, hbk, hck⟩ := HR.out.2.2.2.get 0 kn rfl
    obtain ⟨b5, o5, kv5, hA5, hbl5, hr5, hd0, -⟩ := HP.out.get (List.getElem?_eq_getElem (show kn < ps.length by omega))
    obtain ⟨rfl, rfl⟩ : b5 = bp ∧ o5 = op := by simpa using hA5.symm
    obtain ⟨⟨s1, d1⟩, ht1⟩ : ∃ t, ts[kn]? = some t := ⟨_, List.getElem?_eq_getElem (by omega)⟩
    obtain ⟨At, ct, rfl, htl, htx'⟩ := id HT.out
    obtain ⟨bt_, ot, rfl, hbt, -, hd1⟩ := htx' kn _ ht1
    have hkk : Hid (kindOf ps (kn : Int) = ps[kn].kind) := by unfold Hid; simp [kindOf, List.getElem?_eq_getElem (show kn < ps.length by omega)]
    have hsd : Hid (sideAt ts (kn : Int) = d1) := sideAt_nat ht1
    replace HS : Hid (res = if ps[kn].kind ≠ 14 ∧ ps[kn].kind ≠ 11 then .inl (148, (kn : Int)) else .inr (3, d1)) := by
      have := HS.out
      simp only [List.headD_cons, hkk.out, hsd.out] at this
      exact this
    have hkl : kn < ps.length := by omega
    have hktl : kn < ts.length := by omega
    generalize ps[kn].kind = kk at *
    have h1' : List.length [(kn : Int)] = 1 := rfl
    rw [h1'] at *
    rw [Nat.add_zero] at hck
    clear hA5 ht1 htx' hkk hsd hk1 hr5 Hres h1'
    by_cases hkk : kk = 14 ∨ kk = 11
    · have HS2 : Hid (res = .inr (3, d1)) := by unfold Hid; rw [HS.out, if_neg (by omega)]
      clear HS
      rcases hkk with rfl | rfl
      all_goals
        go_wp2_with fail
        exact bodyPost_ret (v := .tuple #[.agg #[.int .i64 3, .int .i64 d1], .pointer none]) (by simp [results, Tryz.results47, go_sem, *]) rfl
          ⟨3, d1, _, rfl, by rw [HS2.out]; exact ⟨⟨(by repeat (first | exact Below.refl _ _ | assumption | refine below_drewN ?_ _ | refine below_al ?_ _ | refine Below.setCell ?_ (by simp) _)), rfl⟩, rfl⟩⟩
    · have HS2 : Hid (res = .inl (148, (kn : Int))) := by unfold Hid; rw [HS.out, if_pos (by omega)]
      have b14 : (kk != 14) = true := by simp; omega
      have b11 : (kk != 11) = true := by simp; omega
      clear HS hkk
      go_wp2_with (go_at_call 45; refine (sfault_c _ _ _).mono ?_; rintro e w' ⟨rfl, rfl⟩)
      exact bodyPost_ret (v := .tuple #[.agg #[.int .i64 0, .int .i64 0], .pointer (some ⟨w.heap.size + 1 + 1, 0, none⟩)]) (by simp [results, Tryz.results47, go_sem, *]) rfl
        ⟨0, 0, _, rfl, by rw [HS2.out]; exact fltV_new (by repeat (first | exact Below.refl _ _ | assumption | refine below_drewN ?_ _ | refine below_al ?_ _ | refine Below.setCell ?_ (by simp) _)) _ _ (by simp)⟩
  · have HS : Hid (res = speaksF sx i ⟨kind, text, num, kids⟩) := by
      unfold Hid
      rw [← Hres.out, typeF]
      simp only [Int.toNat_natCast, List.getD_eq_getElem?_getD, Hsx.out, Option.getD_some]
      rw [if_neg (by omega), if_neg (by omega), if_neg (by omega), if_neg (by omega), if_neg (by omega), if_neg (by omega), if_neg (by omega), if_neg (by omega), if_neg (by omega)]
    clear Hres
    rcases hks with rfl | rfl | rfl | rfl | rfl | rfl
    all_goals
      go_wp2_with fail
      generalize hW : ((w.alloc (.cells #[.int .i64 0, .int .i64 0] 129)).alloc (.cells #[.int .i64 _, .string text, .int .i64 num, .slice Ak kids.length ck] 66)) = W at *
      obtain ⟨HBW, hsz, hsz0, hw0, hw1, hf0, hf1⟩ := hW2
      clear hW hc0 hc1 hc2 h0 h1 h3 h4
      refine (speaks_c lb _ _ _ ps sc ts i _ sx _ (Hlook.out.below HBW) Hp.out Hsx.out htx (HG.out.below HBW)).mono ?_
      rintro e w2 ⟨s, d, v, rfl, hv⟩
      have hB : Below W.heap.size W w2 := by
        revert hv
        generalize speaksF sx i _ = r
        rcases r with f | t
        · exact fun h => FltV.rec_below h
        · exact fun h => FltV.rec_below h.1
      obtain ⟨hcb, hfb⟩ := bcell hB
      have hB2 : W.heap.size ≤ w2.heap.size := hB.size
      have hs2 : w.heap.size < w2.heap.size := by omega
      clear hB
      go_wp2
      have hq := TypR.put HBW (r := speaksF sx i _) hv w.heap.size 0 1 (.int .i64 s) (.int .i64 d) (Nat.le_refl _) hsz0
      exact bodyPost_ret (v := .tuple #[.agg #[.int .i64 s, .int .i64 d], v]) (by simp [results, Tryz.results47, go_sem, *]) rfl
        ⟨s, d, v, rfl, HS.out ▸ hq⟩
end Go.Proofs.YtldnkeackphilaaGreatDoor
