/-
  The symbolic executor, part five: regions that draw their order.
-/
import Derived.Test.YtboedgnahmibcaaDoorEngD
namespace Go.Eng
open Go Go.RowKit

/-! ### every order, by an invariant over what has come up -/
section
variable {P : Program} {ops : Array Oper} {Q : Exit → Act → World → Prop} {md : Region.Mode}

theorem size_set (listed : Array Bool) (i : Nat) : (listed.setIfInBounds i true).size = listed.size := by simp

/-- How many have not come up. -/
def left (listed : Array Bool) : Nat := (listed.toList.filter (! ·)).length

theorem left_set {listed : Array Bool} {i : Nat} (h : listed.getD i true = false) : left (listed.setIfInBounds i true) + 1 = left listed := by
  have hi : i < listed.size := by
    rcases Nat.lt_or_ge i listed.size with h' | h'
    · exact h'
    · simp [Array.getElem?_eq_none h'] at h
  have hv : listed.toList[i]? = some false := by
    simp [Array.getD_eq_getD_getElem?, hi] at h
    simp [hi, h]
  obtain ⟨l⟩ := listed
  simp only [left, Array.toList_setIfInBounds] at *
  clear h hi
  induction l generalizing i with
  | nil => simp at hv
  | cons b l ih =>
    cases i with
    | zero => simp at hv; subst hv; simp
    | succ i =>
      have := ih (by simpa using hv)
      cases b <;> simp at this ⊢ <;> omega

theorem wpAny_inv (I : Array Bool → Act → World → Prop) (hstep : ∀ listed a w i, listed.size = ops.size → I listed a w → i ∈ Region.ready md ops listed → wpOp P ops Q i (I (listed.setIfInBounds i true)) a w)
    (hend : ∀ listed a w, I listed a w → Region.ready md ops listed = [] → Q .normal a w) :
    ∀ (fuel : Nat) (listed : Array Bool) (a : Act) (w : World), listed.size = ops.size → left listed ≤ fuel → I listed a w → wpAny P md ops Q fuel listed a w
  | 0, listed, a, w, hs, hl, hI => by
    have hr : Region.ready md ops listed = [] := by
      rw [List.eq_nil_iff_forall_not_mem]
      intro i hi
      have := left_set (mem_ready.1 hi).1
      omega
    exact ⟨hr, hend _ _ _ hI hr⟩
  | fuel + 1, listed, a, w, hs, hl, hI =>
    ⟨fun hr => hend _ _ _ hI hr, fun i hi => wpOp_mono (fun a' w' h => wpAny_inv I hstep hend fuel _ a' w' (by simpa using hs) (by have := left_set (mem_ready.1 hi).1; omega) h) (hstep _ _ _ _ hs hI hi)⟩

theorem wp_region_inv {id : Nat} {a : Act} {w : World} (hm : P.follows .mixedOrders = true) (I : Array Bool → Act → World → Prop)
    (h0 : I (Array.replicate ops.size false) a { w with drawn := w.drawn + 1 })
    (hstep : ∀ listed a w i, listed.size = ops.size → I listed a w → i ∈ Region.ready .any ops listed → wpOp P ops Q i (I (listed.setIfInBounds i true)) a w)
    (hend : ∀ listed a w, I listed a w → Region.ready .any ops listed = [] → Q .normal a w) : (Code.region id ops true).wp P Q a w :=
  wp_region_any hm (wpAny_inv I hstep hend _ _ _ _ (by simp) (by simp [left]) h0)
end

/-! ### steps, mixed states -/
structure Stp where
  dst : Option Nat
  sv : SV
  up : Option (Nat × Nat × List FV)
  reads : List Nat
  keep : Option (Nat × Nat × Nat)

def look (D : Nat → Bool) (t : Nat) : Nat → List Stp → Option SV
  | _, [] => none
  | j, s :: r => if s.dst = some t then some (if D j then s.sv else .one .junk) else look D t (j + 1) r

def gM (S0 : St) (D : Nat → Bool) (steps : List Stp) (t : Nat) : SV := (look D t 0 steps).getD (S0.get t)

def inUp (l c : Nat) : Option (Nat × Nat × List FV) → Option FV
  | some (l', off, ys) => if l' = l ∧ off ≤ c then ys[c - off]? else none
  | none => none

def cM (D : Nat → Bool) (l c : Nat) (f : FV) : Nat → List Stp → FV
  | _, [] => f
  | j, s :: r => match inUp l c s.up with
    | some y => if D j then y else f
    | none => cM D l c f (j + 1) r

def mixXs (D : Nat → Bool) (steps : List Stp) (l : Nat) : Nat → List FV → List FV
  | _, [] => []
  | c, f :: r => cM D l c f 0 steps :: mixXs D steps l (c + 1) r

def mixLocs (D : Nat → Bool) (steps : List Stp) : Nat → List (TypeId × List FV) → List (TypeId × List FV)
  | _, [] => []
  | l, (T, xs) :: r => (T, mixXs D steps l 0 xs) :: mixLocs D steps (l + 1) r

def mixSlots (S0 : St) (D : Nat → Bool) (steps : List Stp) : Nat → List SV → List SV
  | _, [] => []
  | t, x :: r => (look D t 0 steps).getD x :: mixSlots S0 D steps (t + 1) r

def ups (steps : List Stp) : List Nat := steps.filterMap fun s => s.up.map (·.1)

def soilAll : List Nat → List (List Nat) → List (List Nat)
  | _, [] => []
  | l, d :: r => (l ++ d) :: r

def mix (S0 : St) (D : Nat → Bool) (steps : List Stp) : St := { slots := mixSlots S0 D steps 0 S0.slots, locs := mixLocs D steps 0 S0.locs, dirt := soilAll (ups steps) S0.dirt }

theorem mixSlots_get (S0 : St) (D : Nat → Bool) (steps : List Stp) : ∀ (l : List SV) (k t : Nat), (mixSlots S0 D steps k l)[t]? = (l[t]?).map fun x => (look D (k + t) 0 steps).getD x
  | [], _, _ => by simp [mixSlots]
  | x :: r, k, 0 => by simp [mixSlots]
  | x :: r, k, t + 1 => by simp [mixSlots, mixSlots_get S0 D steps r (k + 1) t, Nat.add_assoc, Nat.add_comm 1 t]

theorem mixLocs_get (D : Nat → Bool) (steps : List Stp) : ∀ (l : List (TypeId × List FV)) (k i : Nat), (mixLocs D steps k l)[i]? = (l[i]?).map fun x => (x.1, mixXs D steps (k + i) 0 x.2)
  | [], _, _ => by simp [mixLocs]
  | (T, xs) :: r, k, 0 => by simp [mixLocs]
  | (T, xs) :: r, k, i + 1 => by simp [mixLocs, mixLocs_get D steps r (k + 1) i, Nat.add_assoc, Nat.add_comm 1 i]

theorem mixXs_get (D : Nat → Bool) (steps : List Stp) (l : Nat) : ∀ (xs : List FV) (k c : Nat), (mixXs D steps l k xs)[c]? = (xs[c]?).map fun f => cM D l (k + c) f 0 steps
  | [], _, _ => by simp [mixXs]
  | x :: r, k, 0 => by simp [mixXs]
  | x :: r, k, c + 1 => by simp [mixXs, mixXs_get D steps l r (k + 1) c, Nat.add_assoc, Nat.add_comm 1 c]

theorem mixLocs_length (D : Nat → Bool) (steps : List Stp) : ∀ (l : List (TypeId × List FV)) (k : Nat), (mixLocs D steps k l).length = l.length
  | [], _ => rfl
  | (_, _) :: r, k => by simp [mixLocs, mixLocs_length D steps r (k + 1)]
theorem mixSlots_length (S0 : St) (D : Nat → Bool) (steps : List Stp) : ∀ (l : List SV) (k : Nat), (mixSlots S0 D steps k l).length = l.length
  | [], _ => rfl
  | _ :: r, k => by simp [mixSlots, mixSlots_length S0 D steps r (k + 1)]
theorem mixXs_length (D : Nat → Bool) (steps : List Stp) (l : Nat) : ∀ (xs : List FV) (k : Nat), (mixXs D steps l k xs).length = xs.length
  | [], _ => rfl
  | _ :: r, k => by simp [mixXs, mixXs_length D steps l r (k + 1)]

theorem mix_get (S0 : St) (D : Nat → Bool) (steps : List Stp) (t : Nat) : (mix S0 D steps).get t = if t < S0.slots.length then gM S0 D steps t else .one .junk := by
  simp only [mix, St.get, List.getD_eq_getElem?_getD, mixSlots_get, gM, Nat.zero_add]
  cases h : S0.slots[t]? with
  | none =>
    have := List.getElem?_eq_none_iff.1 h
    rw [if_neg (by omega)]
    rfl
  | some x => simp [(List.getElem?_eq_some_iff.1 h).1]

theorem all2_iff {α γ : Type} {R : α → γ → Prop} : ∀ {l : List α} {m : List γ}, All2 R l m ↔ l.length = m.length ∧ ∀ (c : Nat) (x : α) (y : γ), l[c]? = some x → m[c]? = some y → R x y
  | [], [] => ⟨fun _ => ⟨rfl, fun c x y h => by simp at h⟩, fun _ => .nil⟩
  | [], b :: m => ⟨(fun h => by cases h), (fun h => by simp at h)⟩
  | a :: l, [] => ⟨(fun h => by cases h), (fun h => by simp at h)⟩
  | a :: l, b :: m => by
    constructor
    · intro h
      cases h with
      | cons h1 h2 =>
        refine ⟨by simp [h2.length], fun c x y hx hy => ?_⟩
        cases c with
        | zero => simp at hx hy; subst hx; subst hy; exact h1
        | succ c => exact (all2_iff.1 h2).2 c x y (by simpa using hx) (by simpa using hy)
    · intro h
      exact .cons (h.2 0 a b rfl rfl) (all2_iff.2 ⟨by simpa using h.1, fun c x y hx hy => h.2 (c + 1) x y (by simpa using hx) (by simpa using hy)⟩)

/-! ### what an operation looks at -/
def opTmps (o : Oper) : List Nat := o.op.operands.toList.filterMap fun | .tmp t => some t | _ => none

def restr (reads : List Nat) : Nat → List SV → List SV
  | _, [] => []
  | t, x :: r => (if reads.contains t then x else .one .junk) :: restr reads (t + 1) r

def maskXs (keep : Option (Nat × Nat × Nat)) (l : Nat) : Nat → List FV → List FV
  | _, [] => []
  | c, f :: r => (match keep with
    | some (l', lo, n) => if l' = l ∧ lo ≤ c ∧ c < lo + n then f else .junk
    | none => .junk) :: maskXs keep l (c + 1) r

def maskLocs (keep : Option (Nat × Nat × Nat)) : Nat → List (TypeId × List FV) → List (TypeId × List FV)
  | _, [] => []
  | l, (T, xs) :: r => (T, maskXs keep l 0 xs) :: maskLocs keep (l + 1) r

theorem restr_get (reads : List Nat) : ∀ (l : List SV) (k t : Nat), (restr reads k l)[t]? = (l[t]?).map fun x => if reads.contains (k + t) then x else .one .junk
  | [], _, _ => by simp [restr]
  | x :: r, k, 0 => by simp [restr]
  | x :: r, k, t + 1 => by simp [restr, restr_get reads r (k + 1) t, Nat.add_assoc, Nat.add_comm 1 t]
theorem maskXs_get (keep : Option (Nat × Nat × Nat)) (l : Nat) : ∀ (xs : List FV) (k c : Nat), (maskXs keep l k xs)[c]? = (xs[c]?).map fun f => match keep with
    | some (l', lo, n) => if l' = l ∧ lo ≤ k + c ∧ k + c < lo + n then f else .junk
    | none => .junk
  | [], _, _ => by simp [maskXs]
  | x :: r, k, 0 => by simp [maskXs]
  | x :: r, k, c + 1 => by simp [maskXs, maskXs_get keep l r (k + 1) c, Nat.add_assoc, Nat.add_comm 1 c]
theorem maskLocs_get (keep : Option (Nat × Nat × Nat)) : ∀ (l : List (TypeId × List FV)) (k i : Nat), (maskLocs keep k l)[i]? = (l[i]?).map fun x => (x.1, maskXs keep (k + i) 0 x.2)
  | [], _, _ => by simp [maskLocs]
  | (T, xs) :: r, k, 0 => by simp [maskLocs]
  | (T, xs) :: r, k, i + 1 => by simp [maskLocs, maskLocs_get keep r (k + 1) i, Nat.add_assoc, Nat.add_comm 1 i]
theorem maskXs_length (keep : Option (Nat × Nat × Nat)) (l : Nat) : ∀ (xs : List FV) (k : Nat), (maskXs keep l k xs).length = xs.length
  | [], _ => rfl
  | _ :: r, k => by simp [maskXs, maskXs_length keep l r (k + 1)]
theorem maskLocs_length (keep : Option (Nat × Nat × Nat)) : ∀ (l : List (TypeId × List FV)) (k : Nat), (maskLocs keep k l).length = l.length
  | [], _ => rfl
  | (_, _) :: r, k => by simp [maskLocs, maskLocs_length keep r (k + 1)]
theorem restr_length (reads : List Nat) : ∀ (l : List SV) (k : Nat), (restr reads k l).length = l.length
  | [], _ => rfl
  | _ :: r, k => by simp [restr, restr_length reads r (k + 1)]

/-- T says no more than M. -/
structure Le (M T : St) : Prop where
  size : M.slots.length = T.slots.length
  slot : ∀ t, T.get t = .one .junk ∨ T.get t = M.get t
  len : M.locs.length = T.locs.length
  loc : ∀ (i : Nat) (ty : TypeId) (ys : List FV), T.locs[i]? = some (ty, ys) → ∃ xs : List FV, M.locs[i]? = some (ty, xs) ∧ xs.length = ys.length ∧ ∀ (c : Nat) (x y : FV), xs[c]? = some x → ys[c]? = some y → y = .junk ∨ y = x

theorem Sim.weaken {imp : List Nat} {NL : Nat → Prop} {β : Nat → Nat} {M T : St} {a : Act} {w : World} (hS : Sim imp NL β M a w) (hl : Le M T) : Sim imp NL β T a w := by
  refine ⟨by rw [hS.size, hl.size], fun t => ?_, hS.defers, fun i ty ys h => ?_, fun i j hi hj e => hS.inj i j (by rw [hl.len]; exact hi) (by rw [hl.len]; exact hj) e, fun i hi => hS.nl i (by rw [hl.len]; exact hi), by rw [← hl.len]; exact hS.impl, hS.impb⟩
  · rcases hl.slot t with e | e
    · rw [e]; trivial
    · rw [e]; exact hS.slot t
  · obtain ⟨xs, h1, h2, h3⟩ := hl.loc i ty ys h
    obtain ⟨cs, hb, ha, hone⟩ := hS.loc i ty xs h1
    refine ⟨cs, hb, ?_, hone⟩
    rw [all2_iff] at ha ⊢
    refine ⟨by rw [← h2]; exact ha.1, fun c y v hy hv => ?_⟩
    have hc : c < xs.length := by rw [h2]; exact (List.getElem?_eq_some_iff.1 hy).1
    rcases h3 c xs[c] y (List.getElem?_eq_getElem hc) hy with e | e
    · rw [e]; trivial
    · rw [e]; exact ha.2 c _ v (List.getElem?_eq_getElem hc) hv

def keepOf (P : Program) (st : St) (ch : List (Nat × Bool)) (o : Oper) : Option (Nat × Nat × Nat) :=
  match o.op with
  | .load t x => match ev st ch x with
    | .one (.loc l off) => match isRow P t, P.info? t with
      | some true, some i => some (l, off, i.size)
      | some false, some _ => some (l, off, 1)
      | _, _ => none
    | _ => none
  | _ => none

def chainOf (st : St) : Option (Nat × Bool) → List (Nat × Bool)
  | none => []
  | some g => chain st 4 g

def readsOf (st : St) (o : Oper) (g : Option (Nat × Bool)) : List Nat := opTmps o ++ (chainOf st g).map (·.1)

def qT (S0 : St) (steps : List Stp) (reads : List Nat) (keep : Option (Nat × Nat × Nat)) : St :=
  { slots := restr reads 0 (mixSlots S0 (fun _ => true) steps 0 S0.slots), locs := maskLocs keep 0 S0.locs }

def storeQ (P : Program) (T : St) (ch : List (Nat × Bool)) (o : Oper) : Option (Nat × Nat × List FV) :=
  match o.op with
  | .store t p x => match ev T ch p with
    | .one (.loc l off) => match T.locs[l]?, cellsSV (ev T ch x), P.info? t with
      | some (_, xs), some ys, some i => if ys.length = i.size ∧ off + ys.length ≤ xs.length ∧ ys.all FV.sure = true then some (l, off, ys) else none
      | _, _, _ => none
    | _ => none
  | _ => none

def wrapG : Option (Nat × Bool) → SV → SV
  | none, sv => sv
  | some g, sv => .gd g.1 g.2 sv

def qopVC (P : Program) (cfg : Cfg) (T : St) (o : Oper) (g : Option (Nat × Bool)) (wr : World) (NL : Nat → Prop) (k : SV → Option (Nat × Nat × List FV) → Prop) : Prop :=
  let ch := chainOf T g
  match storeQ P T ch o with
  | some u => match g with
    | none => k (.one .junk) (some u)
    | some _ => False
  | none =>
    match localOp P (fun _ => true) T ch o with
    | some (.val sv) => k (wrapG g sv) none
    | some _ => False
    | none => match quietVC P cfg o (match g with | none => True | some g => gcond T 5 g) T ch wr NL (fun sv => k (wrapG g sv) none) with
      | some p => p
      | none => False

def qopsVC (P : Program) (cfg : Cfg) (ops : Array Oper) (S0 : St) (wr : World) (NL : Nat → Prop) (k : List Stp → Prop) : List Oper → List Stp → Prop
  | [], steps => k steps
  | o :: rest, steps =>
    match guardSlot ops o with
    | none => False
    | some g =>
      if selfGuard o.dst g = true then False else
      let st : St := { slots := mixSlots S0 (fun _ => true) steps 0 S0.slots, locs := S0.locs }
      let reads := readsOf st o g
      let keep := keepOf P st (chainOf st g) o
      qopVC P cfg (qT S0 steps reads keep) o g wr NL fun sv up => qopsVC P cfg ops S0 wr NL k rest (steps ++ [{ dst := o.dst, sv := sv, up := up, reads := reads, keep := keep }])

end Go.Eng
