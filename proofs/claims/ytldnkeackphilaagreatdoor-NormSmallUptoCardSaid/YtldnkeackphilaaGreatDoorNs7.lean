/- The calculus of values: code, loops, functions. -/
import Derived.Test.YtldnkeackphilaaGreatDoorNs6
set_option linter.unusedSimpArgs false
set_option linter.unusedVariables false
namespace Go.Proofs.YtldnkeackphilaaGreatDoor
open Go.RowKit

def Wk (P : Program) (N : Nat) (st st' : St) : Prop := ∀ G O w tm, Rl P N G O w tm st → ∃ G' O', Rl P N G' O' w tm st' ∧ Fr G O w G' O' w
theorem Wk.refl {P : Program} {N : Nat} (st : St) : Wk P N st st := fun G O w _ h => ⟨G, O, h, .refl _ _ _⟩
theorem Wk.trans {P : Program} {N : Nat} {a b c : St} (h : Wk P N a b) (k : Wk P N b c) : Wk P N a c := fun G O w tm hr => by
  obtain ⟨G1, O1, h1, f1⟩ := h G O w tm hr
  obtain ⟨G2, O2, h2, f2⟩ := k G1 O1 w tm h1
  exact ⟨G2, O2, h2, f1.trans f2⟩
theorem Wk.freeze {P : Program} {N : Nat} {st : St} {t : Nat} {T : TypeId} {cs : List AV} (h : st.val t = .box T cs) : Wk P N st (st.put noSrc t (.ptr cs) noTok) := fun G O w tm hr => by
  obtain ⟨G', h1, h2⟩ := hr.freeze h
  exact ⟨G', O, h1, h2⟩
def St.setTok (st : St) (t k : Nat) (E : Option (Option TypeId)) : St := ⟨st.val, fun t' k' => if t' = t ∧ k' = k then E else st.tok t' k'⟩
theorem Wk.tok {P : Program} {N : Nat} {st : St} {t k : Nat} (E : Option (Option TypeId)) (h : E = none ∨ E = st.tok t k ∨ ∃ T, E = some (some T) ∧ st.tok t k = some none) : Wk P N st (st.setTok t k E) := fun G O w tm hr => by
  refine ⟨G, O, ⟨⟨hr.size, hr.cells, hr.owned, hr.vals, fun t' k' E' hE => ?_⟩, fun t' k' E' hE => ?_⟩, .refl _ _ _⟩
  · simp only [St.setTok] at hE
    by_cases e : t' = t ∧ k' = k
    · rw [if_pos e] at hE
      obtain ⟨rfl, rfl⟩ := e
      rcases h with rfl | rfl | ⟨T, rfl, h2⟩
      · cases hE
      · exact hr.toks _ _ _ hE
      · cases hE
        have := hr.toks _ _ _ h2
        have this : pv w tm t' k' = .slice none 0 0 := this
        rw [this]
        exact ⟨0, [], World.ownsRow_nil _ _ _ _, fun g hg => by cases hg⟩
    · rw [if_neg e] at hE
      exact hr.toks _ _ _ hE
  · simp only [St.setTok] at hE
    by_cases e : t' = t ∧ k' + 1 = k
    · rw [if_pos e] at hE
      obtain ⟨rfl, rfl⟩ := e
      rcases h with rfl | rfl | ⟨T, rfl, h2⟩
      · cases hE
      · exact hr.comp _ _ _ hE
      · exact hr.comp _ _ _ h2
    · rw [if_neg e] at hE
      exact hr.comp _ _ _ hE
def St.asc : List (Nat × AV × List (Option (Option TypeId))) → St
  | [] => ⟨fun _ => .dead, fun _ _ => none⟩
  | p :: l => ⟨fun u => if u = p.1 then p.2.1 else (St.asc l).val u, fun t i => if t = p.1 then p.2.2.getD i none else (St.asc l).tok t i⟩
def AV.trimR (kp : List Nat) : AV → AV
  | .ref r off => if kp.contains r then .ref r off else .dead
  | .cnd _ _ => .dead
  | a => a
def tkAll (st : St) (t : Nat) : List (Option (Option TypeId)) := match st.val t with
  | .sl _ => [st.tok t 0]
  | .agg cs => none :: (List.range cs.length).map fun j => st.tok t (j + 1)
  | .box _ cs => none :: (List.range cs.length).map fun j => st.tok t (j + 1)
  | _ => []
def litL (st : St) (kp : List Nat) : List Nat → List (Nat × AV × List (Option (Option TypeId)))
  | [] => []
  | k :: l => (k, (st.val k).trimR kp, tkAll st k) :: litL st kp l
def litOf (kp : List Nat) (st : St) : St := St.asc (litL st kp kp)
theorem litL_val {st : St} {kp : List Nat} (u : Nat) : ∀ l : List Nat, (St.asc (litL st kp l)).val u = if u ∈ l then (st.val u).trimR kp else .dead
  | [] => rfl
  | k :: l => by
    simp only [litL, St.asc, litL_val u l, List.mem_cons]
    by_cases h : u = k
    · subst h; simp
    · simp [h]
theorem litL_tok {st : St} {kp : List Nat} (t i : Nat) : ∀ l : List Nat, (St.asc (litL st kp l)).tok t i = if t ∈ l then (tkAll st t).getD i none else none
  | [] => rfl
  | k :: l => by
    simp only [litL, St.asc, litL_tok t i l, List.mem_cons]
    by_cases h : t = k
    · subst h; simp
    · simp [h]
theorem litOf_val {nv : List Nat} {st : St} (u : Nat) : (litOf nv st).val u = if u ∈ nv then (st.val u).trimR nv else .dead := litL_val u nv
theorem litOf_tok {nv : List Nat} {st : St} {t k : Nat} {E : Option TypeId} (h : (litOf nv st).tok t k = some E) : st.tok t k = some E ∧ t ∈ nv ∧ ∀ j, k = j + 1 → (st.val t).comp = true := by
  have h : (St.asc (litL st nv nv)).tok t k = some E := h
  rw [litL_tok] at h
  by_cases ht : t ∈ nv
  · simp only [ht, if_true] at h
    refine ⟨?_, ht, ?_⟩
    · unfold tkAll at h
      split at h
      · cases k with
        | zero => simpa using h
        | succ k => simp at h
      · next cs _ =>
        cases k with
        | zero => simp at h
        | succ k =>
          by_cases hk : k < cs.length
          · simpa [hk] using h
          · simp [hk] at h
      · next cs _ =>
        cases k with
        | zero => simp at h
        | succ k =>
          by_cases hk : k < cs.length
          · simpa [hk] using h
          · simp [hk] at h
      · simp at h
    · rintro j rfl
      unfold tkAll at h
      split at h
      · simp at h
      · next e => rw [e]; rfl
      · next e => rw [e]; rfl
      · simp at h
  · simp [ht] at h
theorem Wk.lit {P : Program} {N : Nat} (nv : List Nat) (st : St) : Wk P N st (litOf nv st) := fun G O w tm hr => by
  refine ⟨G, O, ⟨⟨hr.size, hr.cells, hr.owned, fun u => ?_, fun t k E hE => hr.toks t k E (litOf_tok hE).1⟩, fun t k E hE => ?_⟩, .refl _ _ _⟩
  · rw [litOf_val]
    by_cases hu : u ∈ nv
    · rw [if_pos hu]
      have hv := hr.vals u
      generalize tm.getD u undef = x at hv ⊢
      generalize st.val u = A at hv ⊢
      cases hv with
      | sh h => cases h <;> exact .sh (by constructor <;> assumption)
      | box g T cs vs ho hg hh hl hc => exact .box g T cs vs ho hg hh hl hc
      | ref r off g hr2 hb =>
        simp only [AV.trimR, List.contains_iff_mem]
        by_cases h : r ∈ nv
        · rw [if_pos h]
          obtain ⟨T, cs, hb⟩ := hb
          exact .ref r off g hr2 ⟨T, cs, by rw [litOf_val, if_pos h, hb]; rfl⟩
        · rw [if_neg h]; exact .dead _
      | cnd => exact .dead _
      | dead => exact .dead _
    · rw [if_neg hu]; exact .dead _
  · obtain ⟨h1, h2, h3⟩ := litOf_tok hE
    have := h3 k rfl
    rw [litOf_val, if_pos h2]
    revert this
    cases st.val t <;> simp [AV.comp, AV.trimR]
def DrawOk (L : List Nat) (rts : List (Nat × Nat)) (ops : Array Oper) : Prop := drawOk L rts ops.toList = true
def wC (P : Program) (N : Nat) (nv : List Nat) (L : List Nat) (rts : List (Nat × Nat)) : Code → (Exit → St → Prop) → St → Prop
  | .skip, Q, st => Q .normal st
  | .region _ ops false, Q, st => wR P N L (ops.toList.map (·.dst)) ops.toList (fun s => Q .normal (litOf nv s)) st
  | .region _ ops true, Q, st => DrawOk L rts ops ∧ wD P N L rts (ops.toList.map (·.dst)) ops.toList (fun s => Q .normal (litOf nv s)) st
  | .seq x y, Q, st => wC P N nv L rts x (fun e s => match e with
      | .normal => wC P N nv L rts y Q s
      | e => Q e s) st
  | .cond c x y, Q, st => st.ok true c ∧ ∃ b, st.get c = .imm (.bool b) ∧ (b = true → wC P N nv L rts x Q st) ∧ (b = false → wC P N nv L rts y Q st)
  | .block id x, Q, st => wC P N nv L rts x (fun e s => match e with
      | .exit id' => if id' = id then Q .normal s else Q (.exit id') s
      | e => Q e s) st
  | .loop x, Q, st => ∃ (I : St → Prop) (μ : St → Nat), (∃ s, Wk P N st s ∧ I s) ∧ ∀ s, I s → wC P N nv L rts x (fun e s' => match e with
      | .normal => ∃ s2, Wk P N s' s2 ∧ I s2 ∧ μ s2 < μ s
      | e => Q e s') s
  | .exit id, Q, st => Q (.exit id) st
  | .ret, Q, st => Q .ret st
  | _, _, _ => False
theorem opV_mono {P : Program} {N : Nat} {L : List Nat} {ds : List (Option Nat)} {o : Oper} {R R' : Eff → Prop} {st : St} (h : opV P N L ds o R st) (hr : ∀ e, R e → R' e) : opV P N L ds o R' st := by
  unfold opV at h ⊢
  split at h
  · exact stepV_mono h hr
  · split at h
    · obtain ⟨h1, h⟩ := h
      refine ⟨h1, ?_⟩
      split at h
      · obtain ⟨q1, q2, b, rt, q3, q4, q5⟩ := h
        exact ⟨q1, q2, b, rt, q3, q4, hr _ q5⟩
      · obtain ⟨q1, q2, q3, q4⟩ := h
        exact ⟨q1, q2, q3, hr _ q4⟩
    · exact h.elim
theorem wR_mono {P : Program} {N : Nat} {L : List Nat} {ds : List (Option Nat)} {Q Q' : St → Prop} (hq : ∀ s, Q s → Q' s) : ∀ (l : List Oper) {st : St}, wR P N L ds l Q st → wR P N L ds l Q' st
  | [], _, h => hq _ h
  | o :: l, st, h => opV_mono (o := resO (frzL st (givenL o.op)) o) h fun e he => wR_mono hq l he
theorem wD_mono {P : Program} {N : Nat} {L : List Nat} {rts : List (Nat × Nat)} {ds : List (Option Nat)} {Q Q' : St → Prop} (hq : ∀ s, Q s → Q' s) : ∀ (l : List Oper) {st : St}, wD P N L rts ds l Q st → wD P N L rts ds l Q' st
  | [], _, h => hq _ h
  | o :: l, _, h => ⟨h.1, opV_mono (o := o) h.2 fun e he => ⟨he.1, wD_mono hq l he.2⟩⟩
theorem wC_mono {P : Program} {N : Nat} {nv : List Nat} {L : List Nat} {rts : List (Nat × Nat)} : ∀ (c : Code) {Q Q' : Exit → St → Prop} {st : St}, wC P N nv L rts c Q st → (∀ e s, Q e s → Q' e s) → wC P N nv L rts c Q' st := by
  intro c
  induction c with
  | skip => exact fun h hq => hq _ _ h
  | region id ops draw =>
    intro Q Q' st h hq
    cases draw with
    | false => exact wR_mono (fun s => hq _ _) _ h
    | true => exact ⟨h.1, wD_mono (fun s => hq _ _) _ h.2⟩
  | seq x y ihx ihy => exact fun h hq => ihx h fun e s he => by cases e <;> first | exact ihy he hq | exact hq _ _ he
  | cond c x y ihx ihy => exact fun ⟨h1, b, h2, h3, h4⟩ hq => ⟨h1, b, h2, fun e => ihx (h3 e) hq, fun e => ihy (h4 e) hq⟩
  | block id x ih =>
    exact fun h hq => ih h fun e s he => by
      cases e with
      | exit id' =>
        simp only at he ⊢
        by_cases e : id' = id
        · rw [if_pos e] at he ⊢
          exact hq _ _ he
        · rw [if_neg e] at he ⊢
          exact hq _ _ he
      | _ => exact hq _ _ he
  | loop x ih =>
    exact fun ⟨I, μ, h0, hr⟩ hq => ⟨I, μ, h0, fun s hs => ih (hr s hs) fun e s' he => by cases e <;> first | exact he | exact hq _ _ he⟩
  | exit id => exact fun h hq => hq _ _ h
  | ret => exact fun h hq => hq _ _ h
  | _ => exact fun h _ => h.elim
def PostC (P : Program) (N : Nat) (G : Gh) (O : Om) (w : World) (Q : Exit → St → Prop) : Exit → Act → World → Prop := fun e a' w' => a'.defers = [] ∧ ∃ G' O' st', Rl P N G' O' w' a'.tmps st' ∧ Fr G O w G' O' w' ∧ Q e st'
theorem PostC.after {P : Program} {N : Nat} {G G1 : Gh} {O O1 : Om} {w w1 : World} {Q Q' : Exit → St → Prop} {e e' : Exit} {a : Act} {w2 : World} (hf : Fr G O w G1 O1 w1) (h : PostC P N G1 O1 w1 Q e a w2) (hq : ∀ s, Q e s → Q' e' s) : PostC P N G O w Q' e' a w2 := by
  obtain ⟨h1, G', O', st', h2, h3, h4⟩ := h
  exact ⟨h1, G', O', st', h2, hf.trans h3, hq _ h4⟩
theorem wC_sound {P : Program} (hmx : P.follows .mixedOrders = true) {N : Nat} {nv : List Nat} {L : List Nat} {rts : List (Nat × Nat)} : ∀ (c : Code) {Q : Exit → St → Prop} {st : St} {G : Gh} {O : Om} {w : World} {a : Act}, a.defers = [] → Rl P N G O w a.tmps st → wC P N nv L rts c Q st → c.wp P (PostC P N G O w Q) a w := by
  intro c
  induction c with
  | skip => exact fun hd h hs => wp_skip ⟨hd, _, _, _, h, .refl _ _ _, hs⟩
  | region id ops draw =>
    intro Q st G O w a hd h hs
    cases draw with
    | false => exact wp_region_list (wR_sound rfl _ hd h hs fun a' w' G' O' st' h1 h2 h3 h4 => by
        obtain ⟨G2, O2, k1, k2⟩ := Wk.lit nv st' G' O' w' a'.tmps h2
        exact ⟨h1, G2, O2, _, k1, h3.trans k2, h4⟩)
    | true =>
      obtain ⟨hok, hs⟩ := hs
      obtain ⟨es, h1, h2, h3⟩ := wD_chain ops.toList st hs
      have hf : Fr G O w G O { w with drawn := w.drawn + 1 } := ⟨rfl, rfl, rfl, Nat.le_refl _, .refl _, fun g _ ho => ⟨rfl, rfl, ho⟩⟩
      refine wp_region_any hmx (draws (ord_of hok) (by simpa using h1) h2 (fun i o hi => h3 i o (by simpa using hi)) (fun a' w' G' O' st' k1 k2 k3 k4 => (by
        obtain ⟨G2, O2, q1, q2⟩ := Wk.lit nv st' G' O' w' a'.tmps k2
        exact ⟨k1, G2, O2, _, q1, k3.trans q2, k4⟩)) ops.size (Array.replicate ops.size false) (by simp) (by simp [cntF_rep]) (fun k o hk hl => ?_) hd ?_ hf)
      · exfalso
        rw [Array.getD_eq_getD_getElem?, Array.getElem?_replicate] at hl
        split at hl <;> cases hl
      · rw [sel_none es 0 (fun j hj => by rw [Array.getD_eq_getD_getElem?, Array.getElem?_replicate]; split <;> rfl)]
        exact h.drew
  | seq x y ihx ihy =>
    intro Q st G O w a hd h hs
    refine wp_seq (wp_mono (ihx hd h hs) fun e a1 w1 hp => ?_)
    obtain ⟨h1, G1, O1, s1, h2, h3, h4⟩ := hp
    cases e with
    | normal => exact wp_mono (ihy h1 h2 h4) fun e a2 w2 hp2 => hp2.after h3 fun _ hq => hq
    | _ => exact ⟨h1, G1, O1, s1, h2, h3, h4⟩
  | cond c x y ihx ihy =>
    intro Q st G O w a hd h hs
    obtain ⟨h1, b, h2, h3, h4⟩ := hs
    have hv := get_sound h rfl h1
    rw [h2] at hv
    refine wp_cond hv.imm.1 ?_
    cases b with
    | true => exact ihx hd h (h3 rfl)
    | false => exact ihy hd h (h4 rfl)
  | block id x ih =>
    intro Q st G O w a hd h hs
    refine wp_block (wp_mono (ih hd h hs) fun e a1 w1 hp => ?_)
    cases e with
    | exit id' =>
      obtain ⟨h1, G1, O1, s1, h2, h3, h4⟩ := hp
      simp only [Exit.inBlock]
      by_cases e : id' = id
      · rw [if_pos e]
        simp only [e, if_true] at h4
        exact ⟨h1, G1, O1, s1, h2, h3, h4⟩
      · rw [if_neg e]
        simp only [e, if_false] at h4
        exact ⟨h1, G1, O1, s1, h2, h3, h4⟩
    | _ => exact hp
  | loop x ih =>
    intro Q st G O w a hd h hs
    obtain ⟨I, μ, ⟨s0, hw, hI⟩, hround⟩ := hs
    obtain ⟨G0, O0, r0, f0⟩ := hw G O w a.tmps h
    -- the state is found anew each round; the measure counts along
    have key : ∀ n, ∀ s, μ s = n → I s → ∀ G1 O1 w1 (a1 : Act), a1.defers = [] → Rl P N G1 O1 w1 a1.tmps s → Fr G O w G1 O1 w1 → ∀ b k cs, ∃ e a' w', PostC P N G O w Q e a' w' ∧ Arrives P (lone (b.at a1 (.code x :: .inLoop x :: k)) cs w1) b k cs e a' w' := by
      intro n
      induction n using Nat.strongRecOn with
      | _ n ihn =>
        intro s hn hI G1 O1 w1 a1 hd1 hr1 hf1 b k cs
        obtain ⟨e, a2, w2, hp, harr⟩ := ih hd1 hr1 (hround s hI) b (.inLoop x :: k) cs
        obtain ⟨h1, G2, O2, s2, h2, h3, h4⟩ := hp
        cases e with
        | normal =>
          obtain ⟨s3, hw3, hI3, hlt⟩ := h4
          obtain ⟨G3, O3, r3, f3⟩ := hw3 G2 O2 w2 a2.tmps h2
          obtain ⟨e3, a3, w3, hp3, harr3⟩ := ihn (μ s3) (hn ▸ hlt) s3 rfl hI3 G3 O3 w2 a2 h1 r3 ((hf1.trans h3).trans f3) b k cs
          exact ⟨e3, a3, w3, hp3, .of_steps (Steps.trans harr (.one step_inLoop)) harr3⟩
        | exit id => exact ⟨_, a2, w2, ⟨h1, G2, O2, s2, h2, hf1.trans h3, h4⟩, .pass (x := .inLoop x) rfl (fun _ _ => .inl (by simp)) harr⟩
        | goto l => exact ⟨_, a2, w2, ⟨h1, G2, O2, s2, h2, hf1.trans h3, h4⟩, .pass (x := .inLoop x) rfl (fun _ _ => .inl (by simp)) harr⟩
        | ret => exact ⟨_, a2, w2, ⟨h1, G2, O2, s2, h2, hf1.trans h3, h4⟩, .pass (x := .inLoop x) rfl (fun _ _ => .inl (by simp)) harr⟩
        | panic ch => exact ⟨_, a2, w2, ⟨h1, G2, O2, s2, h2, hf1.trans h3, h4⟩, .pass (x := .inLoop x) rfl (fun _ _ => .inl (by simp)) harr⟩
        | outgrown => exact ⟨_, a2, w2, ⟨h1, G2, O2, s2, h2, hf1.trans h3, h4⟩, .pass (x := .inLoop x) rfl (fun _ _ => .inl (by simp)) harr⟩
    intro b k cs
    obtain ⟨e, a', w', hq, harr⟩ := key _ s0 rfl hI G0 O0 w a hd r0 f0 b k cs
    exact ⟨e, a', w', hq, .of_steps (.one step_loop) harr⟩
  | exit id => exact fun hd h hs => wp_exit ⟨hd, _, _, _, h, .refl _ _ _, hs⟩
  | ret => exact fun hd h hs => wp_ret ⟨hd, _, _, _, h, .refl _ _ _, hs⟩
  | _ => exact fun _ _ hs => hs.elim

def St.args (args : List AV) : St := ⟨fun t => args.getD t .dead, fun _ _ => none⟩
def resA (P : Program) (st : St) : ResultVar → AV
  | .tmp t => st.get (.tmp t)
  | .cell t T => match st.val t with
    | .box _ cs => ldA P T cs
    | _ => .dead
def resC (P : Program) (st : St) : ResultVar → Prop
  | .tmp t => st.ok true (.tmp t) ∧ (st.get (.tmp t)).shared = true
  | .cell t T => match st.val t with
    | .box _ cs => ldC P T cs ∧ (ldA P T cs).shared = true
    | _ => False
def resT (P : Program) (st : St) : ResultVar → Nat → Option (Option TypeId)
  | .tmp t => st.tok t
  | .cell t T => if isRowT P T then (fun k => match k with | 0 => none | j + 1 => if j < szP P T then st.tok t (j + 1) else none) else (fun k => if k = 0 then st.tok t 1 else none)
def EndOk (P : Program) (N : Nat) (rs : List ResultVar) (a : AV) (rt : Nat → Option (Option TypeId)) (st : St) : Prop := ∃ s, Wk P N st s ∧ match rs with
  | [r] => resC P s r ∧ resA P s r = a ∧ ∀ k, rt k = none ∨ rt k = resT P s r k
  | rs => (∀ r ∈ rs, resC P s r) ∧ a = .tup (rs.map (resA P s)) ∧ rt = noTok
end Go.Proofs.YtldnkeackphilaaGreatDoor
/- The calculus of values: a function. -/
namespace Go.Proofs.YtldnkeackphilaaGreatDoor
open Go.RowKit

theorem run_mapM {P : Program} {w : World} {g : ResultVar → Sem Value} : ∀ (l : List ResultVar) (f : ResultVar → Value), (∀ r ∈ l, (g r).run P w = .ok (f r) w) → (l.mapM g).run P w = .ok (l.map f) w
  | [], f, _ => rfl
  | r :: l, f, h => by
    have ih := run_mapM l f fun r' hr => h r' (by simp [hr])
    rw [List.mapM_cons, Sem.run_bind, h r (by simp), Result.andThen_ok, Sem.run_bind, ih]
    rfl
def resV (tm : Array Value) (w : World) (P : Program) : ResultVar → Value
  | .tmp t => tm.getD t undef
  | .cell t T => match (do loadVar T (← asAddr (tm.getD t undef)) : Sem Value).run P w with
    | .ok v _ => v
    | _ => undef
theorem run_results {P : Program} {w : World} (fn : Func) (tm : Array Value) (h : ∀ r ∈ fn.results.toList, ∀ t T, r = .cell t T → (do loadVar T (← asAddr (tm.getD t undef)) : Sem Value).run P w = .ok (resV tm w P r) w) :
    (results fn tm).run P w = .ok (match fn.results.toList with | [r] => resV tm w P r | rs => .tuple (rs.map (resV tm w P)).toArray) w := by
  have hm := run_mapM (P := P) (w := w) (g := fun
    | .tmp t => pure (tm.getD t undef)
    | .cell a t => do loadVar t (← asAddr (tm.getD a undef))) fn.results.toList (resV tm w P) (fun r hr => by
    cases r with
    | tmp t => rfl
    | cell t T => exact h _ hr t T rfl)
  unfold results
  rw [Array.mapM_eq_mapM_toList, Sem.run_bind, Sem.run_map]
  erw [hm]
  simp only [Result.andThen_ok, Sem.run_pure]
  congr 1
  generalize fn.results.toList = rs
  match rs with
  | [] => rfl
  | [r] => rfl
  | r :: r' :: rs => rfl
def resS (P : Program) (r : ResultVar) (t j k : Nat) : Prop := match r with
  | .tmp t' => t = t' ∧ j = k
  | .cell t' T => t = t' ∧ if isRowT P T then j = k else j = k + 1
theorem res_sound {P : Program} {N : Nat} {G : Gh} {O : Om} {w : World} {tm : Array Value} {st : St} (h : Rl P N G O w tm st) {r : ResultVar} (hc : resC P st r) : (∀ t T, r = .cell t T → (do loadVar T (← asAddr (tm.getD t undef)) : Sem Value).run P w = .ok (resV tm w P r) w) ∧ RS G (resV tm w P r) (resA P st r) ∧
    ∀ k E, resT P st r k = some E → ∃ t j, st.tok t j = some E ∧ pv w #[resV tm w P r] 0 k = pv w tm t j ∧ resS P r t j k := by
  cases r with
  | tmp t =>
    obtain ⟨h1, h2⟩ := hc
    have hg := (get_sound (a := ⟨tm, []⟩) h rfl h1).rs h2
    refine ⟨fun t T e => (by cases e), hg, fun k E hE => ⟨t, k, hE, ?_, rfl, rfl⟩⟩
    cases k with
    | zero => rfl
    | succ k => rfl
  | cell t T =>
    simp only [resC] at hc
    split at hc
    · next T' cs hb =>
      obtain ⟨h1, h2⟩ := hc
      have hv := h.vals t
      rw [hb] at hv
      obtain ⟨g, hx⟩ : ∃ g, tm.getD t undef = .pointer (some ⟨g, 0, none⟩) := by
        generalize tm.getD t undef = x at hv
        cases hv with
        | sh h => cases h
        | box g => exact ⟨g, rfl⟩
      obtain ⟨v, k1, k2, k3⟩ := run_ld (P := P) (lies_box h hb hx) h1
      have hrun : (do loadVar T (← asAddr (tm.getD t undef)) : Sem Value).run P w = .ok v w := by
        have : (Instr.loadAt T (.pointer (some ⟨g, 0, none⟩))).run P w = (loadVar T ⟨g, 0, none⟩).run P w := by simp [Instr.loadAt, Instr.sureAddr]
        rw [this] at k1
        simp [hx, asAddr, k1]
      have hrv : resV tm w P (.cell t T) = v := by
        simp only [resV, hrun]
      rw [hrv]
      refine ⟨fun t' T' e => (by cases e; exact hrun), by simp only [resA, hb]; exact k2, fun k E hE => ?_⟩
      have hpv : ∀ j, pv w tm t (j + 1) = (w.cell? ⟨g, j, none⟩).getD undef := fun j => by simp only [pv, hx, Nat.zero_add]
      by_cases hR : isRowT P T = true
      · simp only [resT, hR, if_true] at hE k3 ⊢
        obtain ⟨us, rfl, k4⟩ := k3
        cases k with
        | zero => cases hE
        | succ j =>
          simp only at hE
          by_cases hj : j < szP P T
          · rw [if_pos hj] at hE
            refine ⟨t, j + 1, hE, ?_, rfl, by rw [if_pos hR]⟩
            rw [hpv]
            have := k4 j hj
            rw [Nat.zero_add] at this
            rw [← this]
            show us.getD j undef = _
            rw [Array.getD_eq_getD_getElem?]
          · rw [if_neg hj] at hE; cases hE
      · have hR' : isRowT P T = false := by simpa using hR
        simp only [resT, hR', Bool.false_eq_true, if_false] at hE k3 ⊢
        by_cases hk : k = 0
        · subst hk
          simp only [if_true] at hE
          refine ⟨t, 1, hE, ?_, rfl, by rw [if_neg hR]⟩
          have := hpv 0
          rw [k3] at this
          rw [Nat.zero_add] at this
          rw [this]
          rfl
        · simp [hk] at hE
    · exact hc.elim
theorem has_of {P : Program} (hmx : P.follows .mixedOrders = true) {f : FuncId} {fn : Func} {c : Code} {args : List AV} {a : AV} {rt : Nat → Option (Option TypeId)} (nv : List Nat) (L : List Nat) (rts : List (Nat × Nat)) (hf : P.funcs[f]? = some fn) (hb : fn.body = some c) (hn : (fn.name == "runtime.NumGoroutine") = false) (hN : args.length ≤ fn.ntmps) (ha : a.final = true)
    (hcomp : ∀ k E, rt (k + 1) = some E → a.comp = true) (h : wC P fn.ntmps nv L rts c (fun e s => match e with | .normal => EndOk P fn.ntmps fn.results.toList a rt s | .ret => EndOk P fn.ntmps fn.results.toList a rt s | _ => False) (St.args args)) : Has P f args a rt := by
  refine ⟨ha, fun vals w => ?_, fun G w vals hc hl hv => ?_⟩
  · have hn' : ¬ (fn.name == "runtime.NumGoroutine") = true := by rw [hn]; simp
    simp only [callFunc, Sem.run_bind, run_program, Result.andThen_ok, hf]
    rw [if_neg hn']
    simp [hb]
  refine calls_of_wp hf hb ?_
  have hr : Rl P fn.ntmps G noOm w (vals ++ Array.replicate (fn.ntmps - vals.size) undef) (St.args args) := by
    refine ⟨⟨by simp; omega, hc, fun g p hp => (by cases hp), fun t => ?_, fun t k E hE => (by cases hE)⟩, fun t k E hE => (by cases hE)⟩
    by_cases ht : t < args.length
    · have h1 : vals[t]? = some vals[t] := Array.getElem?_eq_getElem (by omega)
      have h2 : args[t]? = some args[t] := List.getElem?_eq_getElem ht
      have h3 : (vals ++ Array.replicate (fn.ntmps - vals.size) undef).getD t undef = vals[t] := by
        rw [Array.getD_eq_getD_getElem?, Array.getElem?_append_left (by omega), h1]
        rfl
      have h4 : (St.args args).val t = args[t] := by simp [St.args, ht]
      rw [h3, h4]
      exact .sh (hv t _ _ h1 h2)
    · have h4 : (St.args args).val t = .dead := by simp [St.args, ht]
      rw [h4]
      exact .dead _
  have hend : ∀ (a' : Act) w' G' O' s, a'.defers = [] → Rl P fn.ntmps G' O' w' a'.tmps s → Fr G noOm w G' O' w' → EndOk P fn.ntmps fn.results.toList a rt s →
      a'.defers = [] ∧ ∃ v, (results fn a'.tmps).run P w' = .ok v w' ∧ ∃ v2 G' O', Ending.returned v = .returned v2 ∧ Rl P 1 G' O' w' #[v2] (St.one a rt) ∧ Fr G noOm w G' O' w' := by
    intro a' w' G' O' s hd hR hF hE
    obtain ⟨s2, hw, hE⟩ := hE
    obtain ⟨G2, O2, hR2, hF2⟩ := hw G' O' w' a'.tmps hR
    refine ⟨hd, ?_⟩
    have hall : ∀ r ∈ fn.results.toList, resC P s2 r := by
      intro r hr
      split at hE
      · next r' e => rw [e] at hr; simp only [List.mem_singleton] at hr; subst hr; exact hE.1
      · exact hE.1 r hr
    have hrun := run_results (P := P) (w := w') fn a'.tmps fun r hr => (res_sound hR2 (hall r hr)).1
    refine ⟨_, hrun, (match fn.results.toList with | [r] => resV a'.tmps w' P r | rs => Value.tuple (rs.map (resV a'.tmps w' P)).toArray), G2, ?_⟩
    split at hE
    · next r e =>
      obtain ⟨h1, h2, h3⟩ := hE
      obtain ⟨-, k2, k3⟩ := res_sound hR2 h1
      try rw [e]
      try simp only
      refine ⟨fun g => match O2 g with
        | none => none
        | some (t, j) => match r with
          | .tmp t' => if t = t' then some (0, j) else none
          | .cell t' T => if t = t' then (if isRowT P T then some (0, j) else (if j = 1 then some (0, 0) else none)) else none, trivial, ⟨⟨rfl, hR2.cells, fun g p hp => ?_, fun t => ?_, fun t k E hE => ?_⟩, fun t k E hE => ?_⟩, ?_⟩
      · cases ho : O2 g with
        | none => rw [ho] at hp; cases hp
        | some q => exact hR2.owned g q ho
      · by_cases ht : t = 0
        · subst ht
          have : (St.one a rt).val 0 = a := rfl
          rw [this]
          rw [h2] at k2
          exact .sh k2
        · have : (St.one a rt).val t = .dead := by simp [St.one, ht]
          rw [this]
          exact .dead _
      · by_cases ht : t = 0
        · subst ht
          have hE : rt k = some E := by simpa [St.one] using hE
          have h3 : resT P s2 r k = some E := by
            rcases h3 k with h | h
            · rw [h] at hE; cases hE
            · rw [← h]; exact hE
          obtain ⟨t, j, q1, q2, q3⟩ := k3 k E h3
          rw [q2]
          have ht2 := hR2.toks t j E q1
          cases E with
          | none => exact ht2
          | some E =>
            obtain ⟨n, xs, p1, p2⟩ := ht2
            refine ⟨n, xs, p1, fun g hg => ?_⟩
            obtain ⟨p3, p4⟩ := p2 g hg
            refine ⟨?_, p4⟩
            simp only [p3]
            cases r with
            | tmp t' => obtain ⟨rfl, rfl⟩ := q3; simp
            | cell t' T =>
              obtain ⟨rfl, q3⟩ := q3
              by_cases hRT : isRowT P T = true
              · rw [if_pos hRT] at q3
                simp only [hRT, if_true]
                rw [q3]
              · have hRT' : isRowT P T = false := by simpa using hRT
                rw [if_neg hRT] at q3
                simp only [hRT', Bool.false_eq_true, if_false, if_true]
                have hk0 : k = 0 := by
                  simp only [resT, hRT', Bool.false_eq_true, if_false] at h3
                  by_cases e : k = 0
                  · exact e
                  · simp [e] at h3
                subst hk0
                rw [q3]
                simp
        · simp [St.one, ht] at hE
      · by_cases ht : t = 0
        · subst ht
          exact hcomp k E (by simpa [St.one] using hE)
        · simp [St.one, ht] at hE
      · refine (hF.trans hF2).trans ⟨rfl, rfl, rfl, Nat.le_refl _, .refl _, fun g _ ho => ⟨rfl, rfl, by rw [ho]⟩⟩
    · next hne =>
      obtain ⟨h1, h2, h3⟩ := hE
      subst h2 h3
      have hm : (match fn.results.toList with | [r] => resV a'.tmps w' P r | rs => Value.tuple (rs.map (resV a'.tmps w' P)).toArray) = .tuple (fn.results.toList.map (resV a'.tmps w' P)).toArray := by
        split
        · next r e => exact absurd e (hne r)
        · rfl
      try rw [hm]
      refine ⟨fun _ => none, rfl, ⟨⟨rfl, hR2.cells, fun g p hp => (by cases hp), fun t => ?_, fun t k E hE => ?_⟩, fun t k E hE => ?_⟩, (hF.trans hF2).trans ⟨rfl, rfl, rfl, Nat.le_refl _, .refl _, fun g _ ho => ⟨rfl, rfl, rfl⟩⟩⟩
      · by_cases ht : t = 0
        · subst ht
          refine .sh (.tup _ _ (by simp) fun j v b hv hb => ?_)
          simp only [List.getElem?_toArray, List.getElem?_map] at hv hb
          cases hr : fn.results.toList[j]? with
          | none => rw [hr] at hv; cases hv
          | some r =>
            rw [hr] at hv hb
            simp only [Option.map_some, Option.some.injEq] at hv hb
            subst hv hb
            exact (res_sound hR2 (hall r (List.mem_of_getElem? hr))).2.1
        · have : (St.one (.tup (fn.results.toList.map (resA P s2))) noTok).val t = .dead := by simp [St.one, ht]
          rw [this]
          exact .dead _
      · simp [St.one, noTok] at hE
      · simp [St.one, noTok] at hE
  refine wp_mono (wC_sound hmx c (G := G) (O := noOm) rfl hr h) fun e a' w' hp => ?_
  obtain ⟨h1, G', O', s, h2, h3, h4⟩ := hp
  cases e with
  | normal => exact hend a' w' G' O' s h1 h2 h3 h4
  | ret => exact hend a' w' G' O' s h1 h2 h3 h4
  | _ => exact h4.elim
theorem fn_of {P : Program} (hmx : P.follows .mixedOrders = true) {f : FuncId} {fn : Func} {c : Code} {args : List AV} {a : AV} (nv : List Nat) (L : List Nat) (rts : List (Nat × Nat)) (hf : P.funcs[f]? = some fn) (hb : fn.body = some c) (hn : (fn.name == "runtime.NumGoroutine") = false) (hN : Nat.ble args.length fn.ntmps = true) (ha : a.final = true)
    (h : wC P fn.ntmps nv L rts c (fun e s => match e with | .normal => EndOk P fn.ntmps fn.results.toList a noTok s | .ret => EndOk P fn.ntmps fn.results.toList a noTok s | _ => False) (St.args args)) : Has P f args a noTok :=
  has_of hmx nv L rts hf hb hn (Nat.le_of_ble_eq_true hN) ha (fun _ _ h => by cases h) h
end Go.Proofs.YtldnkeackphilaaGreatDoor
/- The calculus of values: code whose regions may all draw; a function's end, strictly. -/
namespace Go.Proofs.YtldnkeackphilaaGreatDoor
open Go.RowKit

def zbox (P : Program) (T : TypeId) : Option (List AV × List (Option (Option TypeId))) := match zeroP P T with
  | some z => if z.cells.all (·.oneCell') then some (z.cells.toList.map constCell, none :: z.cells.toList.map fun v => if isNilS v then some none else none) else none
  | none => none
def ptrP (P : Program) (T : TypeId) : Bool := match P.underlying T with
  | some (.pointer _) => true
  | _ => false
def ifcP (P : Program) (T : TypeId) : Bool := match P.underlying T with
  | some (.interface _) => true
  | _ => false
def undP (P : Program) (T : TypeId) : Bool := (P.underlying T).isSome
def infP (P : Program) (T : TypeId) : Bool := (P.info? T).isSome
def zokP (P : Program) (T : TypeId) : Bool := match zeroP P T with
  | some z => z.cells.size == szP P T && z.cells.all (·.oneCell')
  | none => false
def fldP (P : Program) (S : TypeId) (f : Nat) : Option (Nat × TypeId) := match P.underlying S with
  | some (.struct fs) => (fs[f]?).map fun fl => (fl.offset, fl.type)
  | _ => none
theorem zok_eq (P : Program) (E : TypeId) : (∃ z, zeroP P E = some z ∧ z.cells.size = szP P E ∧ z.cells.all (·.oneCell') = true) = (zokP P E = true) := by
  unfold zokP
  cases zeroP P E with
  | none => simp
  | some z => simp
def zszP (P : Program) (T : TypeId) : Bool := match zeroP P T with
  | some z => z.cells.size == szP P T
  | none => false
theorem zsz_eq (P : Program) (E : TypeId) : (∃ z, zeroP P E = some z ∧ z.cells.size = szP P E) = (zszP P E = true) := by
  unfold zszP
  cases zeroP P E with
  | none => simp
  | some z => simp
theorem zsz_of (P : Program) (E : TypeId) (h : zokP P E = true) : zszP P E = true := by
  unfold zokP at h
  unfold zszP
  cases hz : zeroP P E with
  | none => rw [hz] at h; cases h
  | some z => rw [hz] at h; simp only [Bool.and_eq_true] at h; exact h.1
def drawsAll (L : List Nat) (rts : List (Nat × Nat)) : Code → Bool
  | .region _ ops true => drawOk L rts ops.toList
  | .seq x y => drawsAll L rts x && drawsAll L rts y
  | .cond _ x y => drawsAll L rts x && drawsAll L rts y
  | .block _ x => drawsAll L rts x
  | .loop x => drawsAll L rts x
  | _ => true
def seqK (K : Code → (Exit → St → Prop) → St → Prop) (y : Code) (Q : Exit → St → Prop) (e : Exit) (s : St) : Prop := match e with
  | .normal => K y Q s
  | e => Q e s
def blkK (id : Nat) (Q : Exit → St → Prop) (e : Exit) (s : St) : Prop := match e with
  | .exit id' => if id' = id then Q .normal s else Q (.exit id') s
  | e => Q e s
def loopK {α : Type} (kp : List Nat) (S : α → St) (I : α → Prop) (m : α → Nat) (n : Nat) (Q : Exit → St → Prop) (e : Exit) (s : St) : Prop := match e with
  | .normal => ∃ a, litOf kp s = S a ∧ I a ∧ m a < n
  | e => Q e s
def wF (P : Program) (N : Nat) (nv : List Nat) (L : List Nat) (rts : List (Nat × Nat)) : Code → (Exit → St → Prop) → St → Prop
  | .skip, Q, st => Q .normal st
  | .region _ ops false, Q, st => wR P N L (ops.toList.map (·.dst)) ops.toList (fun s => Q .normal (litOf nv s)) st
  | .region _ ops true, Q, st => wD P N L rts (ops.toList.map (·.dst)) ops.toList (fun s => Q .normal (litOf nv s)) st
  | .seq x y, Q, st => wF P N nv L rts x (seqK (fun _ => wF P N nv L rts y) y Q) st
  | .cond c x y, Q, st => st.ok true c ∧ ∃ b, st.get c = .imm (.bool b) ∧ (b = true → wF P N nv L rts x Q st) ∧ (b = false → wF P N nv L rts y Q st)
  | .block id x, Q, st => wF P N nv L rts x (blkK id Q) st
  | .loop x, Q, st => ∃ (kp : List Nat) (α : Type) (S : α → St) (I : α → Prop) (m : α → Nat), (∃ a, litOf kp st = S a ∧ I a) ∧ ∀ a, I a → wF P N nv L rts x (loopK kp S I m (m a) Q) (S a)
  | .exit id, Q, st => Q (.exit id) st
  | .ret, Q, st => Q .ret st
  | _, _, _ => False
theorem wF_mono {P : Program} {N : Nat} {nv : List Nat} {L : List Nat} {rts : List (Nat × Nat)} : ∀ (c : Code) {Q Q' : Exit → St → Prop} {st : St}, wF P N nv L rts c Q st → (∀ e s, Q e s → Q' e s) → wF P N nv L rts c Q' st := by
  intro c
  induction c with
  | skip => exact fun h hq => hq _ _ h
  | region id ops draw =>
    intro Q Q' st h hq
    cases draw with
    | false => exact wR_mono (fun s => hq _ _) _ h
    | true => exact wD_mono (fun s => hq _ _) _ h
  | seq x y ihx ihy => exact fun h hq => ihx h fun e s he => by cases e <;> first | exact ihy he hq | exact hq _ _ he
  | cond c x y ihx ihy => exact fun ⟨h1, b, h2, h3, h4⟩ hq => ⟨h1, b, h2, fun e => ihx (h3 e) hq, fun e => ihy (h4 e) hq⟩
  | block id x ih =>
    exact fun h hq => ih h fun e s he => by
      cases e with
      | exit id' =>
        simp only [blkK] at he ⊢
        by_cases e : id' = id
        · rw [if_pos e] at he ⊢
          exact hq _ _ he
        · rw [if_neg e] at he ⊢
          exact hq _ _ he
      | _ => exact hq _ _ he
  | loop x ih =>
    exact fun ⟨kp, α, S, I, m, h0, hr⟩ hq => ⟨kp, α, S, I, m, h0, fun a ha => ih (hr a ha) fun e s' he => by cases e <;> first | exact he | exact hq _ _ he⟩
  | exit id => exact fun h hq => hq _ _ h
  | ret => exact fun h hq => hq _ _ h
  | _ => exact fun h _ => h.elim
theorem wF_wC {P : Program} {N : Nat} {nv : List Nat} {L : List Nat} {rts : List (Nat × Nat)} : ∀ (c : Code), drawsAll L rts c = true → ∀ {Q : Exit → St → Prop} {st : St}, wF P N nv L rts c Q st → wC P N nv L rts c Q st := by
  intro c
  induction c with
  | skip => exact fun _ _ _ h => h
  | region id ops draw =>
    intro hd Q st h
    cases draw with
    | false => exact h
    | true => exact ⟨hd, h⟩
  | seq x y ihx ihy =>
    intro hd Q st h
    simp only [drawsAll, Bool.and_eq_true] at hd
    exact wC_mono x (ihx hd.1 h) fun e s he => by cases e <;> first | exact ihy hd.2 he | exact he
  | cond c x y ihx ihy =>
    intro hd Q st h
    simp only [drawsAll, Bool.and_eq_true] at hd
    obtain ⟨h1, b, h2, h3, h4⟩ := h
    exact ⟨h1, b, h2, fun e => ihx hd.1 (h3 e), fun e => ihy hd.2 (h4 e)⟩
  | block id x ih => exact fun hd Q st h => wC_mono x (ih hd h) fun e s he => by cases e <;> exact he
  | loop x ih =>
    intro hd Q st h
    obtain ⟨kp, α, S, I, m, ⟨a0, h0, h1⟩, hr⟩ := h
    obtain ⟨μ, hμ⟩ : ∃ μ : St → Nat, ∀ s, (∃ a, s = S a ∧ I a) → (∃ a, s = S a ∧ I a ∧ m a = μ s) ∧ ∀ a, s = S a → I a → μ s ≤ m a := by
      have key : ∀ s, ∃ n, (∃ a, s = S a ∧ I a) → (∃ a, s = S a ∧ I a ∧ m a = n) ∧ ∀ a, s = S a → I a → n ≤ m a := by
        intro s
        by_cases hex : ∃ a, s = S a ∧ I a
        · obtain ⟨a, ha⟩ := hex
          have hstep : ∀ n, ∀ a, s = S a → I a → m a ≤ n → ∃ n, (∃ a, s = S a ∧ I a ∧ m a = n) ∧ ∀ a, s = S a → I a → n ≤ m a := by
            intro n
            induction n with
            | zero => exact fun a h1 h2 h3 => ⟨0, ⟨a, h1, h2, Nat.le_zero.1 h3⟩, fun _ _ _ => Nat.zero_le _⟩
            | succ n ihn =>
              intro a h1 h2 h3
              by_cases hb : ∃ b, s = S b ∧ I b ∧ m b ≤ n
              · obtain ⟨b, b1, b2, b3⟩ := hb
                exact ihn b b1 b2 b3
              · refine ⟨m a, ⟨a, h1, h2, rfl⟩, fun b b1 b2 => ?_⟩
                have : ¬ m b ≤ n := fun h => hb ⟨b, b1, b2, h⟩
                omega
          obtain ⟨n, hn⟩ := hstep _ a ha.1 ha.2 (Nat.le_refl _)
          exact ⟨n, fun _ => hn⟩
        · exact ⟨0, fun h => absurd h hex⟩
      exact ⟨fun s => Classical.choose (key s), fun s => Classical.choose_spec (key s)⟩
    refine ⟨fun s => ∃ a, s = S a ∧ I a, μ, ⟨_, Wk.lit kp st, a0, h0, h1⟩, fun s hs => ?_⟩
    obtain ⟨⟨a, rfl, ha, hm⟩, -⟩ := hμ s hs
    exact wC_mono x (ih hd (hr a ha)) fun e s' he => by
      cases e <;> first
        | exact he
        | (obtain ⟨b, b1, b2, b3⟩ := he
           exact ⟨_, Wk.lit kp s', ⟨b, b1, b2⟩, by have := (hμ _ ⟨b, b1, b2⟩).2 b b1 b2; omega⟩)
  | exit id => exact fun _ _ _ h => h
  | ret => exact fun _ _ _ h => h
  | _ => exact fun _ _ _ h => h.elim
def resCL (P : Program) (s : St) : List ResultVar → Prop
  | [] => True
  | r :: l => resC P s r ∧ resCL P s l
def resAL (P : Program) (s : St) : List ResultVar → List AV
  | [] => []
  | r :: l => resA P s r :: resAL P s l
def endR (P : Program) (s : St) (a : AV) : List ResultVar → Prop
  | [] => a = .tup []
  | [r] => resC P s r ∧ resA P s r = a
  | r :: r' :: l => resCL P s (r :: r' :: l) ∧ .tup (resAL P s (r :: r' :: l)) = a
def endS (P : Program) (rs : List ResultVar) (a : AV) (e : Exit) (s : St) : Prop := match e with
  | .normal => endR P s a rs
  | .ret => endR P s a rs
  | _ => False
theorem endR_ok {P : Program} {N : Nat} {s : St} {a : AV} {rs : List ResultVar} (h : endR P s a rs) : EndOk P N rs a noTok s := by
  have hl : ∀ l, resCL P s l → ∀ r ∈ l, resC P s r := by
    intro l
    induction l with
    | nil => intro _ r hr; cases hr
    | cons x l ih => exact fun h r hr => (List.mem_cons.1 hr).elim (fun e => e ▸ h.1) (ih h.2 r)
  have ha : ∀ l, l.map (resA P s) = resAL P s l := by
    intro l
    induction l with
    | nil => rfl
    | cons x l ih => rw [List.map_cons, ih]; rfl
  match rs, h with
  | [], h => exact ⟨s, Wk.refl _, fun r hr => (by cases hr), h, rfl⟩
  | [r], h => exact ⟨s, Wk.refl _, h.1, h.2, fun k => .inl rfl⟩
  | r :: r' :: l, h => exact ⟨s, Wk.refl _, hl _ h.1, by rw [ha]; exact h.2.symm, rfl⟩
theorem fnS {P : Program} {f : FuncId} {fn : Func} {c : Code} {args : List AV} {a : AV} (hmx : P.follows .mixedOrders = true) (nv : List Nat) (L : List Nat) (rts : List (Nat × Nat)) (hf : P.funcs[f]? = some fn) (hb : fn.body = some c) (hn : (fn.name == "runtime.NumGoroutine") = false) (hN : Nat.ble args.length fn.ntmps = true) (hd : drawsAll L rts c = true) (ha : a.final = true)
    (h : wF P fn.ntmps nv L rts c (endS P fn.results.toList a) (St.args args)) : Has P f args a noTok :=
  fn_of hmx nv L rts hf hb hn hN ha (wF_wC c hd (wF_mono c h fun e s h => by cases e <;> first | exact endR_ok h | exact h))
end Go.Proofs.YtldnkeackphilaaGreatDoor
