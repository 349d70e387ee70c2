/-
  The symbolic executor, part nine: code, loops, calls.
-/
import Derived.Test.YtboedgnahmibcaaDoorEngHd
namespace Go.Eng
open Go Go.RowKit

/-! ### loops -/
def eqFVs : List FV → List FV → Prop
  | [], [] => True
  | x :: l, y :: m => (match y with | .junk => True | y => x = y) ∧ eqFVs l m
  | _, _ => False

theorem eqFVs_rel {β : Nat → Nat} : ∀ {xs ys : List FV} {cs : List Value}, eqFVs xs ys → All2 (FV.rel β) xs cs → All2 (FV.rel β) ys cs
  | [], [], _, _, h => h
  | x :: l, y :: m, _, hs, .cons h1 h2 => .cons (by
      have := hs.1
      cases y <;> first | trivial | (simp only at this; subst this; exact h1)) (eqFVs_rel hs.2 h2)
  | [], _ :: _, _, h, _ => h.elim
  | _ :: _, [], _, h, _ => h.elim

/-- All slots that code writes. -/
def writes : Code → List Nat
  | .region _ ops _ => ops.toList.filterMap (·.dst)
  | .seq a b => writes a ++ writes b
  | .cond _ a b => writes a ++ writes b
  | .block _ b => writes b
  | .loop b => writes b
  | .scope b => writes b
  | .rangeFunc _ ps a b => ps.toList ++ writes a ++ writes b
  | _ => []

def havoc (ws : List Nat) (vars : List (Nat × SV)) : Nat → List SV → List SV
  | _, [] => []
  | t, x :: r => (if ws.contains t then (match vars.find? (·.1 == t) with
    | some p => p.2
    | none => .one .junk) else x) :: havoc ws vars (t + 1) r

/-- The content that is laid for block i. -/
def newXs (i : Nat) : List Nat → List (List FV) → Option (List FV)
  | k :: ks, x :: xs => if k = i then some x else newXs i ks xs
  | _, _ => none

def setLocs (lvI : List Nat) (lv : List (List FV)) : Nat → List (TypeId × List FV) → List (TypeId × List FV)
  | _, [] => []
  | i, (T, xs) :: r => (T, (newXs i lvI lv).getD xs) :: setLocs lvI lv (i + 1) r

def St.head (st : St) (ws : List Nat) (vars : List (Nat × SV)) (lvI : List Nat) (lv : List (List FV)) : St :=
  { slots := havoc ws vars 0 st.slots, locs := setLocs lvI lv 0 st.locs, dirt := [] :: st.dirt }

/-- Out of a loop: what it wrote is noted in the loop around. -/
def St.pop (st : St) (lvI : List Nat) : St := { st with dirt := match st.dirt with
  | d :: d' :: r => (d ++ lvI ++ d') :: r
  | _ => [] }

theorem havoc_get (ws : List Nat) (vars : List (Nat × SV)) : ∀ (l : List SV) (k t : Nat), (havoc ws vars k l)[t]? = (l[t]?).map fun x => if ws.contains (k + t) then (match vars.find? (·.1 == k + t) with
    | some p => p.2
    | none => .one .junk) else x
  | [], _, _ => by simp [havoc]
  | x :: r, k, 0 => by simp [havoc]
  | x :: r, k, t + 1 => by simp [havoc, havoc_get ws vars r (k + 1) t, Nat.add_assoc, Nat.add_comm 1 t]
theorem setLocs_get (lvI : List Nat) (lv : List (List FV)) : ∀ (l : List (TypeId × List FV)) (k i : Nat), (setLocs lvI lv k l)[i]? = (l[i]?).map fun x => (x.1, (newXs (k + i) lvI lv).getD x.2)
  | [], _, _ => by simp [setLocs]
  | (T, xs) :: r, k, 0 => by simp [setLocs]
  | (T, xs) :: r, k, i + 1 => by simp [setLocs, setLocs_get lvI lv r (k + 1) i, Nat.add_assoc, Nat.add_comm 1 i]
theorem setLocs_length (lvI : List Nat) (lv : List (List FV)) : ∀ (l : List (TypeId × List FV)) (k : Nat), (setLocs lvI lv k l).length = l.length
  | [], _ => rfl
  | (_, _) :: r, k => by simp [setLocs, setLocs_length lvI lv r (k + 1)]
theorem havoc_length (ws : List Nat) (vars : List (Nat × SV)) : ∀ (l : List SV) (k : Nat), (havoc ws vars k l).length = l.length
  | [], _ => rfl
  | _ :: r, k => by simp [havoc, havoc_length ws vars r (k + 1)]

theorem newXs_mem {i : Nat} : ∀ {ks : List Nat} {xs : List (List FV)}, i ∉ ks → newXs i ks xs = none
  | [], _, _ => by simp [newXs]
  | k :: ks, [], _ => by simp [newXs]
  | k :: ks, x :: xs, h => by
    simp only [List.mem_cons, not_or] at h
    unfold newXs
    rw [if_neg (fun e => h.1 e.symm)]
    exact newXs_mem h.2

/-- The slots that carry the invariant hold what it says. -/
def eqVars (st : St) : List (Nat × SV) → Prop
  | [] => True
  | p :: r => (match p.2 with | .one .junk => True | y => st.get p.1 = y) ∧ eqVars st r
def eqLocs (st st' : St) : List Nat → List (List FV) → Prop
  | k :: ks, x :: xs => (match st.locs[k]?, st'.locs[k]? with | some (T, _), some (T', ys) => T' = T ∧ eqFVs ys x | _, _ => False) ∧ eqLocs st st' ks xs
  | [], [] => True
  | _, _ => False

theorem eqVars_get {st : St} : ∀ {l : List (Nat × SV)} {p : Nat × SV}, eqVars st l → p ∈ l → p.2 = .one .junk ∨ st.get p.1 = p.2
  | q :: r, p, h, hp => by
    rcases List.mem_cons.1 hp with rfl | hp
    · have := h.1
      split at this
      · rename_i e; exact .inl e
      · exact .inr this
    · exact eqVars_get h.2 hp

theorem eqLocs_get {st st' : St} {i : Nat} {zs : List FV} : ∀ {ks : List Nat} {xs : List (List FV)}, eqLocs st st' ks xs → newXs i ks xs = some zs → ∃ T ws ys, st.locs[i]? = some (T, ws) ∧ st'.locs[i]? = some (T, ys) ∧ eqFVs ys zs
  | [], _, _, hz => by simp [newXs] at hz
  | _ :: _, [], h, _ => h.elim
  | k :: ks, x :: xs, h, hz => by
    unfold newXs at hz
    split at hz
    · rename_i e
      subst e
      obtain rfl := Option.some.inj hz
      have := h.1
      split at this
      · rename_i T ws T' ys e1 e2
        obtain ⟨rfl, h2⟩ := this
        exact ⟨_, ws, ys, e1, e2, h2⟩
      · exact this.elim
    · exact eqLocs_get h.2 hz

theorem eqLocs_some {st st' : St} {i : Nat} : ∀ {ks : List Nat} {xs : List (List FV)}, eqLocs st st' ks xs → i ∈ ks → ∃ zs, newXs i ks xs = some zs
  | [], _, _, hi => by cases hi
  | _ :: _, [], h, _ => h.elim
  | k :: ks, x :: xs, h, hi => by
    unfold newXs
    by_cases e : k = i
    · exact ⟨x, by rw [if_pos e]⟩
    · rw [if_neg e]
      rcases List.mem_cons.1 hi with rfl | hi
      · exact absurd rfl e
      · exact eqLocs_some h.2 hi

/-- At the first coming to a loop's head. -/
theorem Sim.enter {imp : List Nat} {NL : Nat → Prop} {β : Nat → Nat} {st : St} {a : Act} {w : World} (hS : Sim imp NL β st a w) {ws : List Nat} {vars : List (Nat × SV)} {lvI : List Nat} {lv : List (List FV)}
    (hv : eqVars st vars) (hl : eqLocs st st lvI lv) : Sim imp NL β (st.head ws vars lvI lv) a w := by
  refine ⟨by simp [St.head, havoc_length, hS.size], fun t => ?_, hS.defers, fun i T zs hz => ?_, fun i j hi hj => hS.inj i j (by simpa [St.head, setLocs_length] using hi) (by simpa [St.head, setLocs_length] using hj),
    fun i hi => hS.nl i (by simpa [St.head, setLocs_length] using hi), by simpa [St.head, setLocs_length] using hS.impl, hS.impb⟩
  · have := hS.slot t
    simp only [St.head, St.get, List.getD_eq_getElem?_getD, havoc_get, Nat.zero_add] at this ⊢
    cases hx : st.slots[t]? with
    | none => trivial
    | some x =>
      simp only [Option.map_some, Option.getD_some]
      split
      · split
        · rename_i p hp
          have he : p.1 = t := by simpa using List.find?_some hp
          rcases eqVars_get hv (List.mem_of_find?_eq_some hp) with e | e
          · rw [e]; trivial
          · rw [← e, he]
            exact hS.slot t
        · trivial
      · rw [hx] at this; exact this
  · simp only [St.head, setLocs_get, Nat.zero_add] at hz
    cases hx : st.locs[i]? with
    | none => simp [hx] at hz
    | some x =>
      obtain ⟨T', xs⟩ := x
      simp only [hx, Option.map_some, Option.some.injEq, Prod.mk.injEq] at hz
      obtain ⟨rfl, rfl⟩ := hz
      obtain ⟨cs, hb, ha, ho⟩ := hS.loc i T' xs hx
      refine ⟨cs, hb, ?_, ho⟩
      cases hn : newXs i lvI lv with
      | none => exact ha
      | some zs =>
        obtain ⟨T2, us, ys, _, h1, h2⟩ := eqLocs_get hl hn
        rw [hx] at h1
        simp only [Option.some.injEq, Prod.mk.injEq] at h1
        obtain ⟨rfl, rfl⟩ := h1
        exact eqFVs_rel h2 ha

/-- At the end of a round. -/
theorem Sim.round {imp : List Nat} {NL : Nat → Prop} {β : Nat → Nat} {st st' : St} {a : Act} {w : World} {ws : List Nat} {vars vars' : List (Nat × SV)} {lvI : List Nat} {lv lv' : List (List FV)} (hS : Sim imp NL β st' a w)
    (hf : Fr ws (st.head ws vars lvI lv) st') (hng : st.slots.all SV.ng = true) (himp : imp.length ≤ st.locs.length) (hd : (top st'.dirt).all (fun i => lvI.contains i || decide (st.locs.length ≤ i)) = true) (hv : eqVars st' vars') (hl : eqLocs st st' lvI lv') :
    Sim imp NL β (st.head ws vars' lvI lv') a w := by
  have hlen : st.locs.length ≤ st'.locs.length := by have := hf.len; simpa [St.head, setLocs_length] using this
  have hne : (st.head ws vars lvI lv).dirt ≠ [] := by simp [St.head]
  refine ⟨by rw [hS.size, hf.size]; simp [St.head, havoc_length], fun t => ?_, hS.defers, fun i T zs hz => ?_, fun i j hi hj => hS.inj i j (by simp [St.head, setLocs_length] at hi; omega) (by simp [St.head, setLocs_length] at hj; omega),
    fun i hi => hS.nl i (by simp [St.head, setLocs_length] at hi; omega), by simpa [St.head, setLocs_length] using himp, hS.impb⟩
  · have hst := hS.slot t
    have hfs := hf.slot t
    simp only [St.head, St.get, List.getD_eq_getElem?_getD, havoc_get, Nat.zero_add] at hst hfs ⊢
    cases hx : st.slots[t]? with
    | none => trivial
    | some x =>
      simp only [hx, Option.map_some, Option.getD_some] at hfs ⊢
      split
      · split
        · rename_i p hp
          have he : p.1 = t := by simpa using List.find?_some hp
          rcases eqVars_get hv (List.mem_of_find?_eq_some hp) with e | e
          · rw [e]; trivial
          · rw [← e, he]
            exact hS.slot t
        · trivial
      · rename_i hc
        rw [if_neg hc] at hfs
        have hxn : x.ng = true := by
          simp only [List.all_eq_true] at hng
          exact hng x (List.mem_of_getElem? hx)
        have := hfs (by simpa using hc) hxn
        rw [← this]
        exact hst
  · simp only [St.head, setLocs_get, Nat.zero_add] at hz
    cases hx : st.locs[i]? with
    | none => simp [hx] at hz
    | some x =>
      obtain ⟨T', xs⟩ := x
      simp only [hx, Option.map_some, Option.some.injEq, Prod.mk.injEq] at hz
      obtain ⟨rfl, rfl⟩ := hz
      have hil : i < st.locs.length := (List.getElem?_eq_some_iff.1 hx).1
      cases hn : newXs i lvI lv' with
      | some zs =>
        obtain ⟨T2, us, ys, h0, h1, h2⟩ := eqLocs_get hl hn
        rw [hx] at h0
        simp only [Option.some.injEq, Prod.mk.injEq] at h0
        obtain ⟨rfl, _⟩ := h0
        obtain ⟨cs, hb, ha, ho⟩ := hS.loc i T' ys h1
        exact ⟨cs, hb, eqFVs_rel h2 ha, ho⟩
      | none =>
        have hi : i ∉ lvI := fun h => by
          obtain ⟨zs, hz⟩ := eqLocs_some hl h
          rw [hz] at hn; cases hn
        have hnd : i ∉ top st'.dirt := fun h => by
          simp only [List.all_eq_true] at hd
          have := hd i h
          simp only [Bool.or_eq_true, List.contains_iff_mem, decide_eq_true_eq] at this
          rcases this with h' | h'
          · exact hi h'
          · omega
        have := hf.loc hne i (by simpa [St.head, setLocs_length] using hil) hnd
        simp only [St.head, setLocs_get, Nat.zero_add, hx, Option.map_some, newXs_mem hi, Option.getD_none] at this
        simpa using hS.loc i T' xs this

/-- The number of a loop: of the first region in it. -/
def loopKey : Code → Nat
  | .region id _ _ => id
  | .seq a _ => loopKey a
  | .cond _ a _ => loopKey a
  | .block _ b => loopKey b
  | .loop b => loopKey b
  | _ => 0

def codeVC (P : Program) (cfg : Cfg) : Code → (Exit → St → World → (Nat → Prop) → Prop) → St → World → (Nat → Prop) → Prop
  | .skip, Q, st, wr, NL => Q .normal st wr NL
  | .label _, Q, st, wr, NL => Q .normal st wr NL
  | .ret, Q, st, wr, NL => Q .ret st wr NL
  | .exit id, Q, st, wr, NL => Q (.exit id) st wr NL
  | .region id ops draw, Q, st, wr, NL =>
    if draw then (if cfg.drw id = true then Region.noSelect ops = true ∧ drawVC P cfg ops (fun st wr NL => Q .normal st wr NL) ops.size [] (Array.replicate ops.size false) st wr NL else qopsVC P cfg ops st wr NL (fun steps => chk ops st steps = true ∧ Q .normal (mix st (fun _ => true) steps).clear wr NL) ops.toList [])
    else opsVC P cfg ops ops.toList st wr NL fun st wr NL => Q .normal st.clear wr NL
  | .seq a b, Q, st, wr, NL => codeVC P cfg a (fun e st wr NL => match e with
    | .normal => codeVC P cfg b Q st wr NL
    | e => Q e st wr NL) st wr NL
  | .cond c a b, Q, st, wr, NL =>
    match ev st [] c with
    | .one (.val (.bool t)) => (t = true → codeVC P cfg a Q st wr NL) ∧ (t = false → codeVC P cfg b Q st wr NL)
    | .one (.kb t) => if t then codeVC P cfg a Q st wr NL else codeVC P cfg b Q st wr NL
    | _ => False
  | .block id b, Q, st, wr, NL => codeVC P cfg b (fun e st wr NL => match e with
    | .exit i => if i = id then Q .normal st wr NL else Q (.exit i) st wr NL
    | e => Q e st wr NL) st wr NL
  | .loop b, Q, st, wr, NL =>
    let I := cfg.inv (loopKey b)
    ∃ (ok : I.X → Prop) (μ : I.X → Nat), (st.slots.all SV.ng = true ∧ ∃ x, ok x ∧ I.wr x = wr ∧ I.NL x = NL ∧ eqVars st (I.vars x) ∧ eqLocs st st I.lvI (I.lv x)) ∧
      ∀ x, ok x → codeVC P cfg b (fun e st' wr' NL' => match e with
        | .normal => (top st'.dirt).all (fun i => I.lvI.contains i || decide (st.locs.length ≤ i)) = true ∧ ∃ x', ok x' ∧ μ x' < μ x ∧ I.wr x' = wr' ∧ I.NL x' = NL' ∧ eqVars st' (I.vars x') ∧ eqLocs st st' I.lvI (I.lv x')
        | e => Q e (st'.pop I.lvI) wr' NL') (st.head (writes b) (I.vars x) I.lvI (I.lv x)) (I.wr x) (I.NL x)
  | _, _, _, _, _ => False

/-- Beside what the machine does. -/
def ThenE (imp : List Nat) (ws : List Nat) (st0 : St) (Q : Exit → St → World → (Nat → Prop) → Prop) (Q' : Exit → Act → World → Prop) : Prop :=
  ∀ e β st wr NL a w, Fr ws st0 st → Sim imp NL β st a w → Now NL wr w → Q e st wr NL → Q' e a w

theorem Sim.pop {imp : List Nat} {NL : Nat → Prop} {β : Nat → Nat} {st : St} {a : Act} {w : World} (hS : Sim imp NL β st a w) (lvI : List Nat) : Sim imp NL β (st.pop lvI) a w :=
  ⟨hS.size, hS.slot, hS.defers, hS.loc, hS.inj, hS.nl, hS.impl, hS.impb⟩

theorem Fr.pop {ws : List Nat} {st st' : St} {vars : List (Nat × SV)} {lvI : List Nat} {lv : List (List FV)} (hf : Fr ws (st.head ws vars lvI lv) st') : Fr ws st (st'.pop lvI) := by
  have ht : st'.dirt.tail = st.dirt := hf.tail
  have hne : st'.dirt ≠ [] := fun e => by have := hf.none.1 e; simp [St.head] at this
  obtain ⟨d, r, hd⟩ : ∃ d r, st'.dirt = d :: r := by
    cases h : st'.dirt with
    | nil => exact absurd h hne
    | cons d r => exact ⟨d, r, rfl⟩
  rw [hd, List.tail_cons] at ht
  subst ht
  have hlen := hf.len
  simp only [St.head, setLocs_length] at hlen
  refine ⟨fun t ht hn => ?_, hlen, by rw [show (st'.pop lvI).slots = st'.slots from rfl, hf.size]; simp [St.head, havoc_length], ?_, ?_, fun i hi => ?_, fun hr i hi hn => ?_⟩
  · have e : (st.head ws vars lvI lv).get t = st.get t := by
      simp only [St.head, St.get, List.getD_eq_getElem?_getD, havoc_get, Nat.zero_add]
      cases hx : st.slots[t]? with
      | none => rfl
      | some x => simp only [Option.map_some, Option.getD_some]; rw [if_neg (by simpa using ht)]
    have := hf.slot t ht (by rw [e]; exact hn)
    rw [e] at this
    exact this
  · simp only [St.pop, hd]
    cases st.dirt <;> rfl
  · simp only [St.pop, hd]
    cases st.dirt <;> simp
  · simp only [St.pop, hd]
    cases h : st.dirt with
    | nil => rw [h] at hi; simp [top] at hi
    | cons d' r' => rw [h] at hi; simp only [top, List.mem_append] at hi ⊢; exact .inr hi
  · simp only [St.pop, hd] at hn ⊢
    cases h : st.dirt with
    | nil => exact absurd h hr
    | cons d' r' =>
      rw [h] at hn
      simp only [top, List.mem_append, not_or] at hn
      have := hf.loc (by simp [St.head]) i (by simpa [St.head, setLocs_length] using hi) (by rw [hd]; exact hn.1.1)
      rw [this]
      simp only [St.head, setLocs_get, Nat.zero_add]
      cases hx : st.locs[i]? with
      | none => rfl
      | some x => simp only [Option.map_some, newXs_mem hn.1.2, Option.getD_none]

theorem codeVC_sound {P : Program} {cfg : Cfg} (hm : P.follows .mixedOrders = true) : ∀ (c : Code) {Q : Exit → St → World → (Nat → Prop) → Prop} {Q' : Exit → Act → World → Prop} {imp : List Nat} {NL : Nat → Prop} {β : Nat → Nat} {st : St} {a : Act} {w wr : World},
    ThenE imp (writes c) st Q Q' → Sim imp NL β st a w → Now NL wr w → codeVC P cfg c Q st wr NL → c.wp P Q' a w
  | .skip, _, _, _, _, _, _, _, _, _, hk, hS, hn, h => wp_skip (hk _ _ _ _ _ _ _ (.refl _ _) hS hn h)
  | .label _, _, _, _, _, _, _, _, _, _, hk, hS, hn, h => wp_label (hk _ _ _ _ _ _ _ (.refl _ _) hS hn h)
  | .ret, _, _, _, _, _, _, _, _, _, hk, hS, hn, h => wp_ret (hk _ _ _ _ _ _ _ (.refl _ _) hS hn h)
  | .exit _, _, _, _, _, _, _, _, _, _, hk, hS, hn, h => wp_exit (hk _ _ _ _ _ _ _ (.refl _ _) hS hn h)
  | .region id ops draw, Q, Q', _, NL, β, st, a, w, wr, hk, hS, hn, h => by
    unfold codeVC at h
    cases draw with
    | true =>
      simp only [if_true] at h
      split at h
      · exact draw2_sound hm h.1 hS hn h.2 fun β st' wr NL a w hf hS' hn' hk' => hk _ _ _ _ _ _ _ hf hS' hn' hk'
      · exact draw_sound (k := fun st => Q .normal st wr NL) hm hS hn h fun st a' w' h1 hf hS' hn' => hk _ _ _ _ _ _ _ hf hS' hn' h1
    | false =>
      simp only [Bool.false_eq_true, if_false] at h
      exact region_sound (fun β st wr NL a w hf hS hn h => hk _ _ _ _ _ _ _ hf hS hn h) hS hn h
  | .seq x y, Q, Q', _, _, _, _, _, _, _, hk, hS, hn, h => wp_seq (codeVC_sound hm x (fun e β st wr NL a w hf hS hn h => by
      have hf' := hf.mono (ws' := writes (.seq x y)) (fun t ht => List.mem_append_left _ ht)
      cases e with
      | normal => exact codeVC_sound hm y (fun e β st2 wr NL a w hf2 hS hn h => hk _ _ _ _ _ _ _ (hf'.trans (hf2.mono fun t ht => List.mem_append_right _ ht)) hS hn h) hS hn h
      | _ => exact hk _ _ _ _ _ _ _ hf' hS hn h) hS hn h)
  | .cond c x y, _, _, _, _, _, _, _, _, _, hk, hS, hn, h => by
    have hkx := fun e β st wr NL a w hf => hk e β st wr NL a w (Fr.mono hf (ws' := writes (.cond c x y)) fun t ht => List.mem_append_left _ ht)
    have hky := fun e β st wr NL a w hf => hk e β st wr NL a w (Fr.mono hf (ws' := writes (.cond c x y)) fun t ht => List.mem_append_right _ ht)
    unfold codeVC at h
    have hc := ev_rel hS (ch := []) (fun _ hx => by cases hx) c
    split at h
    · rename_i t e
      rw [e] at hc
      refine wp_cond_split hc (fun ht => codeVC_sound hm x hkx hS hn (h.1 ht)) (fun ht => codeVC_sound hm y hky hS hn (h.2 ht))
    · rename_i t e
      rw [e] at hc
      refine wp_cond_split hc (fun ht => codeVC_sound hm x hkx hS hn (by simpa [ht] using h)) (fun ht => codeVC_sound hm y hky hS hn (by simpa [ht] using h))
    · exact h.elim
  | .block id b, Q, Q', _, _, _, _, _, _, _, hk, hS, hn, h => wp_block (codeVC_sound hm b (fun e β st wr NL a w hf hS hn h => by
      cases e with
      | exit i =>
        simp only [Exit.inBlock]
        dsimp only at h
        split
        · rename_i e; rw [if_pos e] at h; exact hk _ _ _ _ _ _ _ hf hS hn h
        · rename_i e; rw [if_neg e] at h; exact hk _ _ _ _ _ _ _ hf hS hn h
      | _ => exact hk _ _ _ _ _ _ _ hf hS hn h) hS hn h)
  | .loop b, Q, Q', imp, NL, β, st, a, w, wr, hk, hS, hn, h => by
    unfold codeVC at h
    dsimp only at h
    generalize cfg.inv (loopKey b) = I at h
    obtain ⟨ok, μ, ⟨hng, x0, hok, hwr, hNL, hv0, hl0⟩, hround⟩ := h
    have himpl := hS.impl
    -- the machine's side: an x as a ghost
    have key : ∀ (n : Nat) (x : I.X) (β : Nat → Nat) (a : Act) (w : World), μ x = n → ok x → Sim imp (I.NL x) β (st.head (writes b) (I.vars x) I.lvI (I.lv x)) a w → Now (I.NL x) (I.wr x) w →
        ∀ (fr : Frame) (k : List Item) (cs : List Frame), ∃ e a' w', Q' e a' w' ∧ Arrives P (lone (fr.at a (.code b :: .inLoop b :: k)) cs w) fr k cs e a' w' := by
      intro n
      induction n using Nat.strongRecOn with
      | _ n ih =>
        intro x β a w hμ hx hS hn fr k cs
        have hw := codeVC_sound hm b (Q' := Exit.then (fun a' w' => ∃ x' β', μ x' < μ x ∧ ok x' ∧ Sim imp (I.NL x') β' (st.head (writes b) (I.vars x') I.lvI (I.lv x')) a' w' ∧ Now (I.NL x') (I.wr x') w') Q') (fun e β st' wr NL a w hf hS hn h => by
          cases e with
          | normal =>
            obtain ⟨hd, x', h1, h2, h3, h4, h5, h6⟩ := h
            exact ⟨x', β, h2, h1, h4 ▸ hS.round hf hng himpl hd h5 h6, by rw [h3, h4]; exact hn⟩
          | _ => exact hk _ _ _ _ _ _ _ hf.pop (hS.pop _) hn h) hS hn (hround x hx)
        obtain ⟨e, a₁, w₁, hq, harr⟩ := hw fr (.inLoop b :: k) cs
        cases e with
        | normal =>
          obtain ⟨x', β', hlt, hx', hS', hn'⟩ := hq
          obtain ⟨e₂, a₂, w₂, hq₂, harr₂⟩ := ih (μ x') (hμ ▸ hlt) x' β' a₁ w₁ rfl hx' hS' hn' fr k cs
          exact ⟨e₂, a₂, w₂, hq₂, .of_steps (Steps.trans harr (.one step_inLoop)) harr₂⟩
        | exit id => exact ⟨_, a₁, w₁, hq, .pass (x := .inLoop b) rfl (fun _ _ => .inl (by simp)) harr⟩
        | goto l => exact ⟨_, a₁, w₁, hq, .pass (x := .inLoop b) rfl (fun _ _ => .inl (by simp)) harr⟩
        | ret => exact ⟨_, a₁, w₁, hq, .pass (x := .inLoop b) rfl (fun _ _ => .inl (by simp)) harr⟩
        | panic ch => exact ⟨_, a₁, w₁, hq, .pass (x := .inLoop b) rfl (fun _ _ => .inl (by simp)) harr⟩
        | outgrown => exact ⟨_, a₁, w₁, hq, .pass (x := .inLoop b) rfl (fun _ _ => .inl (by simp)) harr⟩
    intro fr k cs
    obtain ⟨e, a', w', hq, harr⟩ := key _ x0 β a w rfl hok (by rw [hNL]; exact hS.enter hv0 hl0) (by rw [hwr, hNL]; exact hn) fr k cs
    exact ⟨e, a', w', hq, .of_steps (.one step_loop) harr⟩
  | .rangeFunc .., _, _, _, _, _, _, _, _, _, _, _, _, h => h.elim
  | .scope _, _, _, _, _, _, _, _, _, _, _, _, _, h => h.elim
  | .goto _, _, _, _, _, _, _, _, _, _, _, _, _, h => h.elim
  | .refuse _, _, _, _, _, _, _, _, _, _, _, _, _, h => h.elim

/-! ### calls -/
def resSV (P : Program) (st : St) : ResultVar → Option Value
  | .tmp t => (st.get t).toVal
  | .cell p t => match st.get p with
    | .one (.loc i off) => match st.locs[i]? with
      | some (_, xs) => (loadLoc P t xs off).bind SV.toVal
      | none => none
    | _ => none

def resAll (P : Program) (st : St) : List ResultVar → Option (List Value)
  | [] => some []
  | r :: l => match resSV P st r, resAll P st l with
    | some v, some vs => some (v :: vs)
    | _, _ => none

def tupled : List Value → Value
  | [v] => v
  | vs => .tuple vs.toArray

/-- What is known of the blocks that came in tracked. -/
def Tracked (w : World) : List Nat → List (TypeId × List FV) → Prop
  | b :: bs, (T, xs) :: ls => (match toVals xs with | some cs => w.heap[b]? = some (.cells cs.toArray T (0, 0)) | none => True) ∧ Tracked w bs ls
  | _, _ => True

def retVC (P : Program) (fn : Func) (imp : List Nat) (R : Ending → World → Prop) (st : St) (wr : World) (NL : Nat → Prop) : Prop :=
  match resAll P st fn.results.toList with
  | some vs => ∀ w, Now NL wr w → Tracked w imp st.locs → R (.returned (tupled vs)) w
  | none => False

def resSem (tm : Array Value) : ResultVar → Sem Value
  | .tmp t => pure (tm.getD t undef)
  | .cell p t => do loadVar t (← asAddr (tm.getD p undef))

theorem resSV_run {P : Program} {imp : List Nat} {NL : Nat → Prop} {β : Nat → Nat} {st : St} {a : Act} {w : World} (hS : Sim imp NL β st a w) {r : ResultVar} {v : Value} (h : resSV P st r = some v) :
    (resSem a.tmps r).run P w = .ok v w := by
  cases r with
  | tmp t => simp only [resSV] at h; simp [resSem, SV.toVal_rel h (hS.slot t)]
  | cell p t =>
    simp only [resSV] at h
    split at h
    · rename_i i off e
      split at h
      · rename_i T xs hl
        have hp := hS.slot p
        rw [e] at hp
        have hp' : a.tmps.getD p undef = .pointer (some ⟨β i, off, none⟩) := hp
        obtain ⟨cs, hb, ha, _⟩ := hS.loc i T xs hl
        cases hL : loadLoc P t xs off with
        | none => simp [hL] at h
        | some sv =>
          rw [hL] at h
          obtain ⟨u, hu, hr⟩ := run_loadLoc (tm := a.tmps) hL hb ha
          have := SV.toVal_rel (by simpa using h) hr
          subst this
          simp [resSem, hp', asAddr, hu]
      · cases h
    · cases h

theorem resAll_run {P : Program} {imp : List Nat} {NL : Nat → Prop} {β : Nat → Nat} {st : St} {a : Act} {w : World} (hS : Sim imp NL β st a w) : ∀ {l : List ResultVar} {vs : List Value}, resAll P st l = some vs →
    (l.mapM (resSem a.tmps)).run P w = .ok vs w
  | [], vs, h => by simp only [resAll, Option.some.injEq] at h; subst h; simp
  | r :: l, vs, h => by
    simp only [resAll] at h
    split at h
    · rename_i v vs' h1 h2
      obtain rfl := Option.some.inj h
      have e1 := resSV_run hS h1
      have e2 := resAll_run hS h2
      simp only [List.mapM_cons, Sem.run_bind, e1, e2, Result.andThen_ok]
      rfl
    · cases h

theorem results_run {P : Program} {imp : List Nat} {NL : Nat → Prop} {β : Nat → Nat} {st : St} {a : Act} {w : World} (hS : Sim imp NL β st a w) {fn : Func} {vs : List Value} (h : resAll P st fn.results.toList = some vs) :
    (results fn a.tmps).run P w = .ok (tupled vs) w := by
  have h1 := resAll_run hS h
  have e : results fn a.tmps = (do
      let vs ← fn.results.mapM (resSem a.tmps)
      pure (if h : vs.size = 1 then vs[0] else .tuple vs)) := by
    unfold results
    congr 1
  rw [e, ← Array.toArray_toList (xs := fn.results)]
  simp only [List.mapM_toArray, Sem.run_bind, Sem.run_map, h1, Result.andThen_ok]
  cases vs with
  | nil => rfl
  | cons v l => cases l <;> rfl

/-- A call, by its condition. -/
theorem calls_vc {P : Program} {cfg : Cfg} (hm : P.follows .mixedOrders = true) {f : FuncId} {fn : Func} {c : Code} {args : Array Value} {w : World} {R : Ending → World → Prop} (hf : P.funcs[f]? = some fn) (hb : fn.body = some c)
    (imp : List Nat) (NL : Nat → Prop) (β : Nat → Nat) (st : St) (hS : Sim imp NL β st ⟨args ++ Array.replicate (fn.ntmps - args.size) undef, []⟩ w) (hlt : ∀ b, NL b → b < w.heap.size)
    (h : codeVC P cfg c (fun e st wr NL => match e with
      | .normal => retVC P fn imp R st wr NL
      | .ret => retVC P fn imp R st wr NL
      | _ => False) st w NL) : Calls P f args w R := by
  have fin : ∀ {β : Nat → Nat} {st : St} {wr : World} {NL : Nat → Prop} {a : Act} {w : World}, Sim imp NL β st a w → Now NL wr w → retVC P fn imp R st wr NL → a.defers = [] ∧ ∃ v, (results fn a.tmps).run P w = .ok v w ∧ R (.returned v) w := by
    intro β st wr NL a w hS hn h
    unfold retVC at h
    split at h
    · rename_i vs hv
      refine ⟨hS.defers, _, results_run hS hv, h w hn ?_⟩
      have : ∀ (bs : List Nat) (ls : List (TypeId × List FV)) (k : Nat), (∀ i, bs[i]? = imp[k + i]?) → (∀ i, ls[i]? = st.locs[k + i]?) → Tracked w bs ls := by
        intro bs
        induction bs with
        | nil => intro ls k _ _; cases ls <;> trivial
        | cons b bs ih =>
          intro ls k h1 h2
          cases ls with
          | nil => trivial
          | cons l ls =>
            obtain ⟨T, xs⟩ := l
            refine ⟨?_, ih ls (k + 1) (fun i => by have := h1 (i + 1); simpa [Nat.add_assoc, Nat.add_comm 1 i] using this) (fun i => by have := h2 (i + 1); simpa [Nat.add_assoc, Nat.add_comm 1 i] using this)⟩
            split
            · rename_i cs hc
              obtain ⟨ds, hb, ha, _⟩ := hS.loc k T xs (by have := h2 0; simpa using this.symm)
              rw [hS.impb k b (by have := h1 0; simpa using this.symm)] at hb
              rw [toVals_rel hc ha] at hb
              exact hb
            · trivial
      exact this imp st.locs 0 (by simp) (by simp)
    · exact h.elim
  refine calls_of_wp hf hb (codeVC_sound hm c (fun e β st wr NL a w _ hS hn h => ?_) hS (.refl hlt) h)
  cases e with
  | normal => exact fin hS hn h
  | ret => exact fin hS hn h
  | _ => exact h.elim

/-- A call of a function whose arguments are values: nothing is tracked from before. -/
def st0 (args : List Value) (ntmps : Nat) : St := { slots := args.map ofVal ++ List.replicate (ntmps - args.length) (.one .junk), locs := [] }

theorem sim_st0 {w : World} {args : List Value} {ntmps : Nat} {NL : Nat → Prop} {β : Nat → Nat} : Sim [] NL β (st0 args ntmps) ⟨args.toArray ++ Array.replicate (ntmps - args.toArray.size) undef, []⟩ w := by
  refine ⟨by simp [st0], fun t => ?_, rfl, fun i T xs h => by simp [st0] at h, fun i j hi => by simp [st0] at hi, fun i hi => by simp [st0] at hi, by simp, fun i b h => by simp at h⟩
  simp only [st0, St.get, List.getD_eq_getElem?_getD, Array.getD_eq_getD_getElem?]
  rcases Nat.lt_or_ge t args.length with h | h
  · rw [List.getElem?_append_left (by simpa using h), Array.getElem?_append_left (by simpa using h)]
    simp only [List.getElem?_map, List.getElem?_toArray, List.getElem?_eq_getElem h, Option.map_some, Option.getD_some]
    exact ofVal_rel _ _ _
  · rw [List.getElem?_append_right (by simpa using h)]
    rw [List.getElem?_replicate]
    split <;> trivial

theorem calls_plain {P : Program} {cfg : Cfg} (hm : P.follows .mixedOrders = true) {f : FuncId} {fn : Func} {c : Code} (hf : P.funcs[f]? = some fn) (hb : fn.body = some c) {args : List Value} {w : World} {R : Ending → World → Prop}
    (h : codeVC P cfg c (fun e st wr NL => match e with
      | .normal => retVC P fn [] R st wr NL
      | .ret => retVC P fn [] R st wr NL
      | _ => False) (st0 args fn.ntmps) w (fun b => b < w.heap.size)) : Calls P f args.toArray w R :=
  calls_vc hm hf hb [] _ (fun _ => 0) _ sim_st0 (fun _ h => h) h

/-- The same, of a function that stands in the program by a name. -/
theorem calls_fn {P : Program} {cfg : Cfg} (hm : P.follows .mixedOrders = true) {f : FuncId} {fn : Func} (hf : P.funcs[f]? = some fn) (hb : fn.body.isSome = true) {args : List Value} {w : World} {R : Ending → World → Prop}
    (h : codeVC P cfg (fn.body.getD .skip) (fun e st wr NL => match e with
      | .normal => retVC P fn [] R st wr NL
      | .ret => retVC P fn [] R st wr NL
      | _ => False) (st0 args fn.ntmps) w (fun b => b < w.heap.size)) : Calls P f args.toArray w R := by
  obtain ⟨c, hc⟩ := Option.isSome_iff_exists.1 hb
  rw [hc] at h
  exact calls_plain hm hf hc h

/-- The same, by a condition that is the same by computation. -/
theorem calls_by {P : Program} {cfg : Cfg} (hm : P.follows .mixedOrders = true) {f : FuncId} {fn : Func} {VC : Prop} (hf : P.funcs[f]? = some fn) (hb : fn.body.isSome = true) {args : List Value} {w : World} {R : Ending → World → Prop}
    (e : VC = codeVC P cfg (fn.body.getD .skip) (fun e st wr NL => match e with
      | .normal => retVC P fn [] R st wr NL
      | .ret => retVC P fn [] R st wr NL
      | _ => False) (st0 args fn.ntmps) w (fun b => b < w.heap.size)) (h : VC) : Calls P f args.toArray w R :=
  calls_fn hm hf hb (e ▸ h)

theorem Now.toBelow {w w' : World} (h : Now (fun b => b < w.heap.size) w w') : Below w.heap.size w w' := ⟨h.os, h.tape, h.output, h.size, fun k hk => h.block k hk⟩

end Go.Eng
