/-
  The symbolic executor: a region that draws its order and holds calls, allocations, stores: what reads is taken first, the rest in whatever order.
-/
import Derived.Test.YtboedgnahmibcaaDoorEngH
import Derived.OrdersHeld
namespace Go.Eng
open Go Go.RowKit

/-! ### orders, with what is still to be read held -/
def bindsJ (ops : Array Oper) (j i : Nat) : Bool := match ops[j]? with
  | some o => bindsT ops 3 o i
  | none => false

def dropS (ops : Array Oper) (j : Nat) {α : Type} (H : List (Nat × α)) : List (Nat × α) := H.filter fun h => !bindsJ ops j h.1

section
variable {P : Program} {ops : Array Oper} {Q : Exit → Act → World → Prop}

def wpAnyS (P : Program) (ops : Array Oper) (Q : Exit → Act → World → Prop) : Nat → List (Nat × (World → Prop)) → Array Bool → Act → World → Prop
  | 0, _, listed, a, w => Region.ready .any ops listed = [] ∧ Q .normal a w
  | fuel + 1, H, listed, a, w => (Region.ready .any ops listed = [] → Q .normal a w) ∧
    ∀ j ∈ Region.ready .any ops listed, wpOp P ops Q j (fun a' w' => (∀ h ∈ dropS ops j H, h.2 w') ∧ wpAnyS P ops Q fuel (dropS ops j H) (listed.setIfInBounds j true) a' w') a w

theorem wpAny_of_S : ∀ (fuel : Nat) (H : List (Nat × (World → Prop))) (listed : Array Bool) (a : Act) (w : World), wpAnyS P ops Q fuel H listed a w → wpAny P .any ops Q fuel listed a w
  | 0, _, _, _, _, h => h
  | fuel + 1, _, _, _, _, h => ⟨h.1, fun i hi => wpOp_mono (fun a' w' h' => wpAny_of_S fuel _ _ a' w' h'.2) (h.2 i hi)⟩

theorem dropS_sub {α : Type} {j : Nat} {H H' : List (Nat × α)} (hs : ∀ h ∈ H', h ∈ H) : ∀ h ∈ dropS ops j H', h ∈ dropS ops j H := by
  intro h hh
  simp only [dropS, List.mem_filter] at hh ⊢
  exact ⟨hs h hh.1, hh.2⟩

theorem wpAnyS_mono : ∀ (fuel : Nat) {H H' : List (Nat × (World → Prop))} (listed : Array Bool) (a : Act) (w : World), (∀ h ∈ H', h ∈ H) → wpAnyS P ops Q fuel H listed a w → wpAnyS P ops Q fuel H' listed a w
  | 0, _, _, _, _, _, _, h => h
  | fuel + 1, _, _, _, _, _, hs, h => ⟨h.1, fun i hi => wpOp_mono (fun a' w' h' => ⟨fun x hx => h'.1 x (dropS_sub hs x hx), wpAnyS_mono fuel _ a' w' (dropS_sub hs) h'.2⟩) (h.2 i hi)⟩

theorem ready_lt {listed : Array Bool} {i : Nat} (h : listed.getD i true = false) : i < listed.size := by
  rcases Nat.lt_or_ge i listed.size with h' | h'
  · exact h'
  · simp [Array.getElem?_eq_none h'] at h

theorem closed_at {listed : Array Bool} {i : Nat} {o : Oper} (ho : ops[i]? = some o) (hi : i < listed.size) (hall : ∀ e ∈ o.after, Region.binds .any e = true → listed.getD e.on false = true) (hcl : Closed ops listed) :
    Closed ops (listed.setIfInBounds i true) := by
  intro j oj hoj hj k hb
  by_cases e : j = i
  · subst e
    obtain rfl := Option.some.inj (ho.symm.trans hoj)
    simp only [bindsOn, List.any_eq_true] at hb
    obtain ⟨e, he, hb⟩ := hb
    simp only [Bool.and_eq_true, beq_iff_eq] at hb
    have := hall e (by simpa using he) hb.1
    rw [hb.2] at this
    exact getD_set_true this
  · rw [getD_set_ne false (fun h => e h.symm)] at hj
    exact getD_set_true (hcl j oj hoj hj k hb)

theorem bindsJ_no {listed : Array Bool} {i j : Nat} {oj : Oper} (hoj : ops[j]? = some oj) (hall : ∀ e ∈ oj.after, Region.binds .any e = true → listed.getD e.on false = true) (hcl : Closed ops listed) (hun : listed.getD i true = false) :
    bindsJ ops j i = false := by
  cases hb : bindsJ ops j i with
  | false => rfl
  | true =>
    simp only [bindsJ, hoj] at hb
    refine absurd (hcl.thru 3 oj (fun k hk => ?_) i hb) (ready_not hun)
    simp only [bindsOn, List.any_eq_true, Bool.and_eq_true, beq_iff_eq] at hk
    obtain ⟨e, he, h1, h2⟩ := hk
    rw [← h2]
    exact hall e (by simpa using he) h1

theorem wpAnyS_first {i : Nat} {oi : Oper} {v : Value} {c : World → Prop} (hi : ops[i]? = some oi) (hsel : ∀ (j : Nat) (o : Oper) cs b, ops[j]? = some o → o.op ≠ .select cs b)
    (hQ : ∀ c a w, Q (.panic c) (a.put oi.dst v) w → Q (.panic c) a w) :
    ∀ (fuel : Nat) (H : List (Nat × (World → Prop))) (listed : Array Bool) (a : Act) (w : World),
      (∀ j oj, ops[j]? = some oj → j ≠ i → listed.getD j true = false → (∀ e ∈ oj.after, Region.binds .any e = true → e.on ≠ i) → oi.apart ops oj = true) →
      Closed ops listed → i ∈ Region.ready .any ops listed → YieldsIf P ops c oi v a → c w → (∀ h ∈ H, h.2 w) →
      wpAnyS P ops Q fuel ((i, c) :: H) (listed.setIfInBounds i true) (a.put oi.dst v) w → wpAnyS P ops Q (fuel + 1) H listed a w := by
  intro fuel
  induction fuel with
  | zero =>
    intro H listed a w _ hcl hr hy hc hH W
    refine ⟨fun h => (by rw [h] at hr; cases hr), fun j hj => ?_⟩
    by_cases hji : j = i
    · subst hji; exact hy.wpOp hi hc ⟨fun h hh => hH h (List.mem_filter.1 hh).1, W⟩
    · have := ready_mono hj hji
      rw [W.1] at this
      cases this
  | succ fuel ih =>
    intro H listed a w hfree hcl hr hy hc hH W
    refine ⟨fun h => (by rw [h] at hr; cases hr), fun j hj => ?_⟩
    by_cases hji : j = i
    · subst hji
      exact hy.wpOp hi hc ⟨fun h hh => hH h (List.mem_filter.1 hh).1, wpAnyS_mono _ _ _ _ (fun h hh => List.mem_cons_of_mem _ (List.mem_filter.1 hh).1) W⟩
    · have h1 := W.2 j (ready_mono hj hji)
      obtain ⟨hjun, oj, hoj, hall⟩ := mem_ready.1 hj
      have hiun := (mem_ready.1 hr).1
      have hnot : ∀ e ∈ oj.after, Region.binds .any e = true → e.on ≠ i := fun e he hb heq => by
        have h1 := hall e he hb
        rw [heq] at h1
        exact ready_not hiun h1
      have hbj := bindsJ_no hoj hall hcl hiun
      have hd : dropS ops j ((i, c) :: H) = (i, c) :: dropS ops j H := by
        simp only [dropS, List.filter_cons, hbj, Bool.not_false, if_true]
      rw [hd] at h1
      have h2 := wpOp_putIf hoj (hfree j oj hoj hji hjun hnot) (fun cs b => hsel i oi cs b hi) (fun cs b => hsel j oj cs b hoj) hQ hy h1
      have hfree' : ∀ k ok, ops[k]? = some ok → k ≠ i → (listed.setIfInBounds j true).getD k true = false →
          (∀ e ∈ ok.after, Region.binds .any e = true → e.on ≠ i) → oi.apart ops ok = true := fun k ok hk hki hun hno => by
        refine hfree k ok hk hki ?_ hno
        by_cases hjk : j = k
        · subst hjk; exact hjun
        · rw [getD_set_ne true hjk] at hun; exact hun
      refine wpOp_mono (fun a' w' h3 => ⟨fun h hh => h3.2.1 h (List.mem_cons_of_mem _ hh), ih (dropS ops j H) (listed.setIfInBounds j true) a' w' hfree' (closed_at hoj (ready_lt hjun) hall hcl) (ready_mono hr (Ne.symm hji)) h3.1
        (h3.2.1 (i, c) List.mem_cons_self) (fun h hh => h3.2.1 h (List.mem_cons_of_mem _ hh)) ?_⟩) h2
      rw [Array.setIfInBounds_comm _ _ hji]
      exact h3.2.2

theorem wpAnyS_take {i : Nat} {oi : Oper} {v : Value} {c : World → Prop} {fuel : Nat} {H : List (Nat × (World → Prop))} {listed : Array Bool} {a : Act} {w : World} (hi : ops[i]? = some oi)
    (hs : Region.noSelect ops = true) (hf : Region.free .any ops listed i = true) (hcl : Closed ops listed) (hr : i ∈ Region.ready .any ops listed)
    (hQ : ∀ c a w, Q (.panic c) (a.put oi.dst v) w → Q (.panic c) a w) (hy : YieldsIf P ops c oi v a) (hc : c w) (hH : ∀ h ∈ H, h.2 w)
    (h : wpAnyS P ops Q fuel ((i, c) :: H) (listed.setIfInBounds i true) (a.put oi.dst v) w) : wpAnyS P ops Q (fuel + 1) H listed a w :=
  wpAnyS_first hi (Region.noSelect_spec hs) hQ fuel H listed a w (Region.free_spec hi hf) hcl hr hy hc hH h
end

/-- Q, but nothing of a panic. -/
def NoPan (Q : Exit → Act → World → Prop) : Exit → Act → World → Prop
  | .panic _, _, _ => False
  | e, a, w => Q e a w
theorem NoPan.imp {Q : Exit → Act → World → Prop} : ∀ (e : Exit) (a : Act) (w : World), NoPan Q e a w → Q e a w := fun e a w h => by
  cases e <;> first | exact h | exact (h : False).elim

/-! ### the executor's side -/
inductive HK where
  | loc (l off n : Nat)
  | mem (G : Prop) (a : Addr) (vs : List Value)

/-- What is known where an operation's guard lets by. -/
def gof (st : St) : Option (Nat × Bool) → Prop
  | none => True
  | some g => gcond st 5 g

def loadH (P : Program) (rcd : TypeId → Option Rcd) (G : Prop) (a : Addr) (t : TypeId) (wr : World) (NL : Nat → Prop) (k : List Value → SV → Prop) : Prop :=
  match rcd t with
  | some r => if rcdOK P t r.n = true then ∃ x : r.X, (G → CellsAt wr a (r.l x) ∧ NL a.block) ∧ k (r.l x) (.agg ((r.l x).map .val)) else False
  | none => match vShp P t with
    | .one s => exOne s fun v => (G → CellsAt wr a [v] ∧ NL a.block) ∧ k [v] (ofVal v)
    | .agg l => exCells l [] fun vs => (G → vs.length = l.length ∧ CellsAt wr a vs ∧ NL a.block) ∧ k vs (.agg (vs.map .val))
    | .own _ => False

def takeO (P : Program) (cfg : Cfg) (ops : Array Oper) (i : Nat) (o : Oper) (H : List (Nat × HK)) (st : St) (wr : World) (NL : Nat → Prop) (k : List (Nat × HK) → St → Prop) : Option Prop :=
  match guardSlot ops o with
  | none => none
  | some g => if selfGuard o.dst g = true then none else
    match localOp P (fun _ => true) st (chainOf st g) o with
    | some (.val sv) => some (k (match keepOf P st (chainOf st g) o with | some (l, off, n) => (i, .loc l off n) :: H | none => H) (st.put o.dst (wrapG g sv)))
    | some _ => none
    | none => match loadAddr P st (chainOf st g) o with
      | some (a, t) => some (loadH P cfg.rcd (gof st g) a t wr NL fun vs sv => k ((i, .mem (gof st g) a vs) :: H) (st.put o.dst (wrapG g sv)))
      | none => if (plainOp st (chainOf st g) o && notSelect o.op) = true then
          match quietSem (rho st (chainOf st g)) o with
          | some s => some (exR (oShp P cfg o) fun v => ((gof st g) → PureRuns P s v) ∧ k H (st.put o.dst (wrapG g (ofVal v))))
          | none => match effSem (rho st (chainOf st g)) o with
            | some _ => none
            | none => match pureRun P (execOp (rho st (chainOf st g)) o) with
              | some (.value v) => some (k H (st.put o.dst (wrapG g (ofVal v))))
              | _ => none
        else none

def takeVC (P : Program) (cfg : Cfg) (ops : Array Oper) (i : Nat) (H : List (Nat × HK)) (st : St) (wr : World) (NL : Nat → Prop) (k : List (Nat × HK) → St → Prop) : Option Prop :=
  match ops[i]? with
  | none => none
  | some o => match kg ops st o with
    | .run => takeO P cfg ops i (unguard o) H st wr NL k
    | .skip => some (k H (st.put o.dst (.one .junk)))
    | .asIs => takeO P cfg ops i o H st wr NL k

def firstSome (rs : List Nat) (f : Nat → Option Prop) : Option Prop :=
  match rs with
  | [] => none
  | i :: l => match f i with
    | some p => some p
    | none => firstSome l f

def allReady (rs : List Nat) (f : Nat → Prop) : Prop :=
  match rs with
  | [] => True
  | [i] => f i
  | i :: l => f i ∧ allReady l f

def holdVC : List (Nat × HK) → World → (Nat → Prop) → Prop
  | [], _, _ => True
  | (_, .loc _ _ _) :: r, wr, NL => holdVC r wr NL
  | [(_, .mem G a vs)], wr, NL => (G → CellsAt wr a vs ∧ NL a.block)
  | (_, .mem G a vs) :: r, wr, NL => (G → CellsAt wr a vs ∧ NL a.block) ∧ holdVC r wr NL

def locApart (l off n : Nat) : Nat × HK → Bool
  | (_, .loc l' off' n') => apartR l off n l' off' n'
  | _ => true

def branchO (P : Program) (cfg : Cfg) (ops : Array Oper) (o : Oper) (H : List (Nat × HK)) (st : St) (wr : World) (NL : Nat → Prop) (k : St → World → (Nat → Prop) → Prop) : Prop :=
  match guardSlot ops o with
  | none => False
  | some g => if selfGuard o.dst g = true then False else
    match storeQ P st (chainOf st g) o with
    | some (l, off, ys) => match g with
      | none => if H.all (locApart l off ys.length) = true then
          match st.locs[l]? with
          | some (T, xs) => k { (st.put o.dst (.one .junk)) with locs := st.locs.set l (T, xs.take off ++ ys ++ xs.drop (off + ys.length)), dirt := soil l st.dirt } wr NL
          | none => False
        else False
      | some _ => False
    | none => match localOp P cfg.esc st (chainOf st g) o with
      | some (.upd _ _ _) => False
      | some r => match applyL st o.dst g r with
        | some st' => k st' wr NL
        | none => False
      | none => match quietVC P cfg o (gof st g) st (chainOf st g) wr NL (fun sv => k (st.put o.dst (wrapG g sv)) wr NL) with
        | some p => p
        | none => opVC P cfg ops o st wr NL fun st' wr' NL' => match H with
          | [] => k st' wr' NL'
          | _ => holdVC H wr' NL' ∧ k st' wr' NL'

def branchVC (P : Program) (cfg : Cfg) (ops : Array Oper) (i : Nat) (H : List (Nat × HK)) (st : St) (wr : World) (NL : Nat → Prop) (k : St → World → (Nat → Prop) → Prop) : Prop :=
  match ops[i]? with
  | none => False
  | some o => match kg ops st o with
    | .run => branchO P cfg ops (unguard o) H st wr NL k
    | .skip => k (st.put o.dst (.one .junk)) wr NL
    | .asIs => branchO P cfg ops o H st wr NL k

def drawVC (P : Program) (cfg : Cfg) (ops : Array Oper) (k : St → World → (Nat → Prop) → Prop) : Nat → List (Nat × HK) → Array Bool → St → World → (Nat → Prop) → Prop
  | 0, _, listed, st, wr, NL => match Region.ready .any ops listed with
    | [] => k st.clear wr NL
    | _ => False
  | fuel + 1, H, listed, st, wr, NL => match Region.ready .any ops listed with
    | [] => k st.clear wr NL
    | rs => match firstSome rs (fun i => if Region.free .any ops listed i = true then takeVC P cfg ops i H st wr NL (fun H st => drawVC P cfg ops k fuel H (listed.setIfInBounds i true) st wr NL) else none) with
      | some p => p
      | none => allReady rs fun i => branchVC P cfg ops i (dropS ops i H) st wr NL fun st wr NL => drawVC P cfg ops k fuel (dropS ops i H) (listed.setIfInBounds i true) st wr NL

/-! ### soundness -/
section
variable {P : Program} {cfg : Cfg} {ops : Array Oper} {imp : List Nat} {NL : Nat → Prop} {β : Nat → Nat} {st : St} {a : Act} {w wr : World} {o : Oper} {Q : Exit → Act → World → Prop}

/-- A load yields the cells that are there. -/
theorem load_cells {t : TypeId} {ad : Addr} {vs : List Value} {b : Bool} {inf : TypeInfo} (hr : isRow P t = some b) (hi : P.info? t = some inf) (hlen : vs.length = if b then inf.size else 1) (hc : CellsAt w ad vs) :
    (loadVar t ad).run P w = .ok (if b then .agg vs.toArray else vs.headD undef) w := by
  have hau : (isAgg t).run P w = .ok b w := by
    unfold isRow at hr
    cases hu : P.underlying t with
    | none => simp [hu] at hr
    | some d =>
      simp only [isAgg, Sem.run_bind, run_underlying hu, Result.andThen_ok]
      cases d <;> simp [hu] at hr ⊢ <;> simp_all
  cases b with
  | true =>
    simp only [if_true] at hlen ⊢
    have := run_loadCells_list (P := P) w ad vs hc.out
    rw [hlen] at this
    simp [loadVar, hau, sizeOf, typeInfo, hi, this]
  | false =>
    simp only [Bool.false_eq_true, if_false] at hlen ⊢
    match vs, hlen with
    | [v], _ =>
      have := hc.out 0 v rfl
      simp only [Addr.add, if_true] at this
      simp [loadVar, hau, run_load, this]

/-- What localOp says of an operation that is no load: it is so in every world. -/
theorem localOp_pure (hS : Sim imp NL β st a w) {ch : List (Nat × Bool)} (hch : chOK ch a.tmps) {sv : SV} (h : localOp P (fun _ => true) st ch o = some (.val sv)) :
    (∃ v, (∀ w1, (execOp a.eval o).run P w1 = .ok (.value v) w1) ∧ sv.rel β a.tmps v ∧ keepOf P st ch o = none) ∨
    (∃ l off n T xs t x, keepOf P st ch o = some (l, off, n) ∧ st.locs[l]? = some (T, xs) ∧ o.op = .load t x ∧ ev st ch x = .one (.loc l off) ∧ loadLoc P t xs off = some sv) := by
  obtain ⟨dst, op, type, pos, after, guard⟩ := o
  cases op <;> simp only [localOp] at h <;> try (cases h; done)
  case move x =>
    simp only [Option.some.injEq, LRes.val.injEq] at h
    subst h
    exact .inl ⟨_, fun w1 => by simp [execOp], ev_rel hS hch x, rfl⟩
  case assign x =>
    simp only [Option.some.injEq, LRes.val.injEq] at h
    subst h
    exact .inl ⟨_, fun w1 => by simp [execOp], ev_rel hS hch x, rfl⟩
  case pick c x y =>
    simp only [Option.map_eq_some_iff, LRes.val.injEq] at h
    obtain ⟨sv', h1, rfl⟩ := h
    obtain ⟨cb, hc, hr⟩ := pick_rel hS hch h1
    exact .inl ⟨_, fun w1 => by simp [execOp, hc, asBool], hr, rfl⟩
  case alloc t =>
    simp at h
  case box t x =>
    split at h
    · cases h
    · split at h
      · split at h
        · simp at h
        · cases h
      · cases h
  case load t x =>
    split at h
    · rename_i i off e
      split at h
      · rename_i T xs hl
        simp only [Option.map_eq_some_iff, LRes.val.injEq] at h
        obtain ⟨sv', h1, rfl⟩ := h
        have h1' := h1
        unfold loadLoc at h1'
        split at h1'
        · rename_i inf e1 e2
          exact .inr ⟨i, off, inf.size, T, xs, t, x, by simp only [keepOf, e, e1, e2], hl, rfl, e, h1⟩
        · rename_i inf e1 e2
          exact .inr ⟨i, off, 1, T, xs, t, x, by simp only [keepOf, e, e1, e2], hl, rfl, e, h1⟩
        · cases h1'
      · cases h
    · cases h
  case store t p x =>
    split at h
    · split at h
      · simp at h
      · cases h
    · cases h
  case fieldAddr s x f =>
    split at h
    · rename_i i off e
      simp only [Option.map_eq_some_iff, LRes.val.injEq] at h
      obtain ⟨d, h1, rfl⟩ := h
      have hx := ev_rel hS hch x
      rw [e] at hx
      have hx' : a.eval x = .pointer (some ⟨β i, off, none⟩) := hx
      unfold fieldOff at h1
      split at h1
      · rename_i fs hu
        split at h1
        · rename_i fd hf
          split at h1
          · rename_i ti hi
            split at h1
            · cases h1
            · rename_i hz
              obtain rfl := Option.some.inj h1
              exact .inl ⟨.pointer (some ⟨β i, off + fd.offset, none⟩), fun w1 => by simp [execOp, Instr.fieldAt, run_underlying hu, hf, hx', Instr.sureAddr, fieldPlace, sizeOf, typeInfo, hi, hz, add_plain'], rfl, rfl⟩
          · cases h1
        · cases h1
      · cases h1
    · cases h
  case nilCheck x =>
    split at h
    · rename_i i off e
      simp only [Option.some.injEq, LRes.val.injEq] at h
      subst h
      have hx := ev_rel hS hch x
      rw [e] at hx
      have hx' : a.eval x = .pointer (some ⟨β i, off, none⟩) := hx
      exact .inl ⟨.pointer (some ⟨β i, off, none⟩), fun w1 => by simp [execOp, hx'], rfl, rfl⟩
    · cases h
  case binOp op t x y t' =>
    simp only [Option.map_eq_some_iff, LRes.val.injEq] at h
    obtain ⟨b, h1, rfl⟩ := h
    left
    refine ⟨.bool b, fun w1 => ?_, rfl, rfl⟩
    unfold eqSV at h1
    split at h1
    · rename_i xs ys ex ey
      have hx := SV.toVal_rel ex (ev_rel hS hch x)
      have hy := SV.toVal_rel ey (ev_rel hS hch y)
      split at h1
      · cases h1
      · rename_i hg
        have hg' : P.eqGuardType P.depth t = false := by simpa using hg
        split at h1
        · simp only [execOp, hx, hy, Sem.run_bind, run_eqGuard_agg w1 _ t x y xs ys hg', Result.andThen_ok, run_eql_struct, eqTy_run h1 10000 (by omega)]
          simp
        · simp only [Option.map_eq_some_iff] at h1
          obtain ⟨c, h1, rfl⟩ := h1
          simp only [execOp, hx, hy, Sem.run_bind, run_eqGuard_agg w1 _ t x y xs ys hg', Result.andThen_ok, run_neq_struct, eqTy_run h1 10000 (by omega)]
          simp
        · cases h1
    · cases h1

/-- The held reads, as the executor and as the orders know them. -/
inductive HRel (β : Nat → Nat) (n : Nat) (F : Addr → List Value → Prop) : List (Nat × HK) → List (Nat × (World → Prop)) → Prop where
  | nil : HRel β n F [] []
  | loc {H Hs i l off m vs} : HRel β n F H Hs → l < n → vs.length = m → HRel β n F ((i, .loc l off m) :: H) ((i, fun w => CellsAt w ⟨β l, off, none⟩ vs) :: Hs)
  | mem {H Hs i G a vs} : HRel β n F H Hs → G → F a vs → HRel β n F ((i, .mem G a vs) :: H) ((i, fun w => CellsAt w a vs) :: Hs)
  | skip {H Hs x} : HRel β n F H Hs → HRel β n F (x :: H) Hs
  | triv {H Hs i} : HRel β n F H Hs → HRel β n F H ((i, fun _ => True) :: Hs)

theorem HRel.drop {n : Nat} {F : Addr → List Value → Prop} (j : Nat) : ∀ {H : List (Nat × HK)} {Hs : List (Nat × (World → Prop))}, HRel β n F H Hs → HRel β n F (dropS ops j H) (dropS ops j Hs)
  | _, _, .nil => .nil
  | _, _, .loc (i := i) h hl hm => by
    have ih := h.drop j
    simp only [dropS, List.filter_cons] at ih ⊢
    cases hb : bindsJ ops j i
    · simp only [Bool.not_false, if_true]; exact .loc ih hl hm
    · simp only [Bool.not_true, Bool.false_eq_true, if_false]; exact ih
  | _, _, .mem (i := i) h hG hF => by
    have ih := h.drop j
    simp only [dropS, List.filter_cons] at ih ⊢
    cases hb : bindsJ ops j i
    · simp only [Bool.not_false, if_true]; exact .mem ih hG hF
    · simp only [Bool.not_true, Bool.false_eq_true, if_false]; exact ih
  | _, _, .skip (x := x) h => by
    have ih := h.drop j
    simp only [dropS, List.filter_cons] at ih ⊢
    cases hb : bindsJ ops j x.1
    · simp only [Bool.not_false, if_true]; exact .skip ih
    · simp only [Bool.not_true, Bool.false_eq_true, if_false]; exact ih
  | _, _, .triv (i := i) h => by
    have ih := h.drop j
    simp only [dropS, List.filter_cons] at ih ⊢
    cases hb : bindsJ ops j i
    · simp only [Bool.not_false, if_true]; exact .triv ih
    · simp only [Bool.not_true, Bool.false_eq_true, if_false]; exact ih

theorem HRel.up {β' : Nat → Nat} {n n' : Nat} {F : Addr → List Value → Prop} (hb : ∀ i, i < n → β' i = β i) (hn : n ≤ n') : ∀ {H : List (Nat × HK)} {Hs : List (Nat × (World → Prop))}, HRel β n F H Hs → HRel β' n' F H Hs
  | _, _, .nil => .nil
  | _, _, .loc (l := l) h hl hm => by rw [← hb l hl]; exact .loc (h.up hb hn) (by omega) hm
  | _, _, .mem h hG hF => .mem (h.up hb hn) hG hF
  | _, _, .skip h => .skip (h.up hb hn)
  | _, _, .triv h => .triv (h.up hb hn)

theorem hold_tail {x : Nat × HK} {r : List (Nat × HK)} (h : holdVC (x :: r) wr NL) : holdVC r wr NL := by
  obtain ⟨i, k⟩ := x
  cases k with
  | loc l off n => simpa only [holdVC] using h
  | mem G a vs => cases r with
    | nil => trivial
    | cons y r => exact h.2
theorem hold_head {i : Nat} {G : Prop} {ad : Addr} {vs : List Value} {r : List (Nat × HK)} (h : holdVC ((i, .mem G ad vs) :: r) wr NL) (hG : G) : CellsAt wr ad vs ∧ NL ad.block := by
  cases r with
  | nil => exact h hG
  | cons y r => exact h.1 hG

theorem HRel.hold {n : Nat} {F : Addr → List Value → Prop} : ∀ {H : List (Nat × HK)} {Hs : List (Nat × (World → Prop))}, HRel β n F H Hs → holdVC H wr NL → HRel β n (fun a vs => CellsAt wr a vs ∧ NL a.block) H Hs
  | _, _, .nil, _ => .nil
  | _, _, .loc h hl hm, hh => .loc (h.hold (hold_tail hh)) hl hm
  | _, _, .mem h hG _, hh => .mem (h.hold (hold_tail hh)) hG (hold_head hh hG)
  | _, _, .skip h, hh => .skip (h.hold (hold_tail hh))
  | _, _, .triv h, hh => .triv (h.hold hh)

theorem HRel.keep {w' : World} {n : Nat} {F : Addr → List Value → Prop} (hF : ∀ a vs, F a vs → CellsAt w' a vs) : ∀ {H : List (Nat × HK)} {Hs : List (Nat × (World → Prop))}, HRel β n F H Hs →
    (∀ i l off m vs, (i, HK.loc l off m) ∈ H → l < n → vs.length = m → CellsAt w ⟨β l, off, none⟩ vs → CellsAt w' ⟨β l, off, none⟩ vs) → (∀ h ∈ Hs, h.2 w) → ∀ h ∈ Hs, h.2 w'
  | _, _, .nil, _, _ => fun h hh => by cases hh
  | _, _, .loc h hl hm, hk, hw => fun x hx => by
    rcases List.mem_cons.1 hx with rfl | hx
    · exact hk _ _ _ _ _ List.mem_cons_self hl hm (hw _ List.mem_cons_self)
    · exact h.keep hF (fun i l off m vs hm => hk i l off m vs (List.mem_cons_of_mem _ hm)) (fun y hy => hw y (List.mem_cons_of_mem _ hy)) x hx
  | _, _, .mem h hG hf, hk, hw => fun x hx => by
    rcases List.mem_cons.1 hx with rfl | hx
    · exact hF _ _ hf
    · exact h.keep hF (fun i l off m vs hm => hk i l off m vs (List.mem_cons_of_mem _ hm)) (fun y hy => hw y (List.mem_cons_of_mem _ hy)) x hx
  | _, _, .skip h, hk, hw => h.keep hF (fun i l off m vs hm => hk i l off m vs (List.mem_cons_of_mem _ hm)) hw
  | _, _, .triv h, hk, hw => fun x hx => by
    rcases List.mem_cons.1 hx with rfl | hx
    · trivial
    · exact h.keep hF hk (fun y hy => hw y (List.mem_cons_of_mem _ hy)) x hx

theorem CellsAt.of_block {ad : Addr} {vs : List Value} {w w' : World} (h : CellsAt w ad vs) (hb : w'.heap[ad.block]? = w.heap[ad.block]?) : CellsAt w' ad vs :=
  ⟨fun j v hj => by
    have h1 := h.out j v hj
    have hbl : (ad.add j).block = ad.block := add_block ad j
    unfold World.cell? at h1 ⊢
    rw [hbl] at h1 ⊢
    rw [hb]
    exact h1⟩

theorem all_mem_of {α : Type} {l : List α} {p : α → Bool} (h : l.all p = true) {x : α} (hx : x ∈ l) : p x = true := by
  simp only [List.all_eq_true] at h
  exact h x hx

/-- One take. -/
theorem takeO_sound {i : Nat} {o : Oper} {H : List (Nat × HK)} {Hs : List (Nat × (World → Prop))} {k : List (Nat × HK) → St → Prop} {p : Prop} (h : takeO P cfg ops i o H st wr NL k = some p) (hp : p) (hS : Sim imp NL β st a w) (hn : Now NL wr w)
    (hH : HRel β st.locs.length (fun a vs => CellsAt wr a vs ∧ NL a.block) H Hs) :
    ∃ v c H' sv, YieldsIf P ops c o v a ∧ c w ∧ k H' (st.put o.dst sv) ∧ Sim imp NL β (st.put o.dst sv) (a.put o.dst v) w ∧ HRel β st.locs.length (fun a vs => CellsAt wr a vs ∧ NL a.block) H' ((i, c) :: Hs) := by
  unfold takeO at h
  · split at h
    · cases h
    · rename_i g hg
      split at h
      · cases h
      · rename_i hself
        have hself : selfGuard o.dst g = false := by simpa using hself
        have hgd : (g = none ∧ o.guard = none) ∨ ∃ s want j, g = some (s, want) ∧ o.guard = some (j, want) ∧ (ops[j]?).bind (·.dst) = some s := by
          unfold guardSlot at hg
          split at hg
          · rename_i e; exact .inl ⟨(Option.some.inj hg).symm, e⟩
          · rename_i j want e
            split at hg
            · rename_i s hs; exact .inr ⟨s, want, j, (Option.some.inj hg).symm, e, hs⟩
            · cases hg
        -- the ways: wanted or not
        have ways : (Region.wanted o (yielded ops a.tmps) = true ∧ chOK (chainOf st g) a.tmps ∧ (gof st g) ∧ ∀ sv v, sv.ng = true → sv.rel β a.tmps v → Sim imp NL β (st.put o.dst (wrapG g sv)) (a.put o.dst v) w) ∨
            (Region.wanted o (yielded ops a.tmps) = false ∧ ∀ sv, sv.ng = true → Sim imp NL β (st.put o.dst (wrapG g sv)) (a.put o.dst undef) w) := by
          rcases hgd with ⟨rfl, hgn⟩ | ⟨s, want, j, rfl, hgs, hs⟩
          · exact .inl ⟨by simp [Region.wanted, hgn], fun _ hx => by simp [chainOf] at hx, trivial, fun sv v hng hr => hS.put o.dst (rel_ng hng hr)⟩
          · have hwi := wanted_slot (o := o) hgs hs a.tmps
            by_cases hw : a.tmps[s]? = some (.bool want)
            · exact .inl ⟨hwi.2 hw, chain_ok hS 4 (s, want) hw, gcond_of hS 5 (s, want) hw, fun sv v hng hr => put_gd hS hself hng hw hr⟩
            · refine .inr ⟨?_, fun sv hng => put_gd_off hS hself hng hw⟩
              cases hx : Region.wanted o (yielded ops a.tmps) with
              | false => rfl
              | true => exact absurd (hwi.1 hx) hw
        split at h
        · rename_i sv hr
          obtain rfl := Option.some.inj h
          have hng := localOp_ng hr
          rcases ways with ⟨hw, hch, _, hput⟩ | ⟨hw, hput⟩
          · rcases localOp_pure hS hch hr with ⟨v, hv, hrel, hk⟩ | ⟨l, off, n, T, xs, t, x, hk, hl, hop, hev, hld⟩
            · rw [hk] at hp
              exact ⟨v, fun _ => True, H, wrapG g sv, .inl ⟨hw, fun w1 _ => hv w1⟩, trivial, hp, hput sv v hng hrel, .triv hH⟩
            · rw [hk] at hp
              have hx := ev_rel hS hch x
              rw [hev] at hx
              have hx' : a.eval x = .pointer (some ⟨β l, off, none⟩) := hx
              obtain ⟨cs, hb, ha, _⟩ := hS.loc l T xs hl
              have hcl := ha.length
              have hll : l < st.locs.length := (List.getElem?_eq_some_iff.1 hl).1
              obtain ⟨v, hv, hrel⟩ := run_loadLoc (tm := a.tmps) hld hb ha
              have hcells : CellsAt w ⟨β l, off, none⟩ ((cs.drop off).take n) := ⟨fun j u hj => by
                rw [add_plain']
                rw [List.getElem?_take] at hj
                split at hj
                · rw [List.getElem?_drop] at hj
                  simp [World.cell?, hb, hj]
                · cases hj⟩
              have hki : ∃ b inf, isRow P t = some b ∧ P.info? t = some inf ∧ n = (if b then inf.size else 1) ∧ off + n ≤ xs.length := by
                have hk' := hk
                have hld' := hld
                simp only [keepOf, hop, hev] at hk'
                unfold loadLoc at hld'
                split at hk'
                · rename_i inf e1 e2
                  simp only [Option.some.injEq, Prod.mk.injEq, true_and] at hk'
                  rw [e1, e2] at hld'
                  simp only at hld'
                  split at hld'
                  · exact ⟨true, inf, e1, e2, by simp [hk'], by omega⟩
                  · cases hld'
                · rename_i inf e1 e2
                  simp only [Option.some.injEq, Prod.mk.injEq, true_and] at hk'
                  rw [e1, e2] at hld'
                  simp only at hld'
                  split at hld'
                  · rename_i f hf
                    have := (List.getElem?_eq_some_iff.1 hf).1
                    exact ⟨false, inf, e1, e2, by simp [← hk'], by omega⟩
                  · cases hld'
                · cases hk'
              obtain ⟨b, inf, e1, e2, e3, e4⟩ := hki
              have hvl : ((cs.drop off).take n).length = n := by simp; omega
              have hrun : ∀ w1, CellsAt w1 ⟨β l, off, none⟩ ((cs.drop off).take n) → (execOp a.eval o).run P w1 = .ok (.value v) w1 := fun w1 hc => by
                have h1 := load_cells e1 e2 (by rw [hvl, e3]) hc
                have h2 := load_cells e1 e2 (by rw [hvl, e3]) hcells
                rw [hv] at h2
                simp only [Result.ok.injEq, and_true] at h2
                rw [← h2] at h1
                obtain ⟨dst, op, type, pos, after, guard⟩ := o
                simp only at hop
                subst hop
                simp [execOp, Instr.loadAt, hx', Instr.sureAddr, h1]
              exact ⟨v, _, _, wrapG g sv, .inl ⟨hw, hrun⟩, hcells, hp, hput sv v hng hrel, .loc hH hll hvl⟩
          · refine ⟨undef, fun _ => True, _, wrapG g sv, .inr ⟨hw, rfl⟩, trivial, hp, hput sv hng, ?_⟩
            cases keepOf P st (chainOf st g) o with
            | none => exact .triv hH
            | some x => exact .triv (.skip hH)
        · cases h
        · split at h
          · rename_i ad t hl
            obtain rfl := Option.some.inj h
            obtain ⟨x, hop, hx, hrow⟩ : ∃ x, o.op = .load t x ∧ ev st (chainOf st g) x = .one (.val (.pointer (some ad))) ∧ ((isRow P t = some true ∧ ∃ i, P.info? t = some i ∧ (cellShp P 8 t).length = i.size) ∨ (isRow P t = some false ∧ ∃ i, P.info? t = some i)) := by
              unfold loadAddr at hl
              split at hl
              · rename_i t' x' ho
                split at hl
                · rename_i a' e
                  split at hl
                  · rename_i i h1 h2
                    split at hl
                    · rename_i hsz
                      simp only [Option.some.injEq, Prod.mk.injEq] at hl
                      obtain ⟨rfl, rfl⟩ := hl
                      exact ⟨x', ho, e, .inl ⟨h1, i, h2, hsz⟩⟩
                    · cases hl
                  · rename_i i h1 h2
                    simp only [Option.some.injEq, Prod.mk.injEq] at hl
                    obtain ⟨rfl, rfl⟩ := hl
                    exact ⟨x', ho, e, .inr ⟨h1, i, h2⟩⟩
                  · cases hl
                · cases hl
              · cases hl
            have fin : ∀ (b : Bool) (inf : TypeInfo) (vs : List Value) (sv : SV), isRow P t = some b → P.info? t = some inf → sv.ng = true → (∀ (β : Nat → Nat) (tm : Array Value), sv.rel β tm (if b then .agg vs.toArray else vs.headD undef)) →
                ((gof st g) → (vs.length = if b then inf.size else 1) ∧ CellsAt wr ad vs ∧ NL ad.block) → k ((i, .mem (gof st g) ad vs) :: H) (st.put o.dst (wrapG g sv)) →
                ∃ v c H' sv, YieldsIf P ops c o v a ∧ c w ∧ k H' (st.put o.dst sv) ∧ Sim imp NL β (st.put o.dst sv) (a.put o.dst v) w ∧ HRel β st.locs.length (fun a vs => CellsAt wr a vs ∧ NL a.block) H' ((i, c) :: Hs) := by
              intro b inf vs sv hb hi hng hrel hG hk
              rcases ways with ⟨hw, hch, hg', hput⟩ | ⟨hw, hput⟩
              · obtain ⟨h1, h2, h3⟩ := hG hg'
                have hxr := ev_rel hS hch x
                rw [hx] at hxr
                have hx' : a.eval x = .pointer (some ad) := hxr
                have hrun : ∀ w1, CellsAt w1 ad vs → (execOp a.eval o).run P w1 = .ok (.value (if b then .agg vs.toArray else vs.headD undef)) w1 := fun w1 hc => by
                  have h1 := load_cells hb hi h1 hc
                  obtain ⟨dst, op, type, pos, after, guard⟩ := o
                  simp only at hop
                  subst hop
                  simp [execOp, Instr.loadAt, hx', Instr.sureAddr, h1]
                exact ⟨_, _, _, _, .inl ⟨hw, hrun⟩, h2.now h3 hn, hk, hput sv _ hng (hrel _ _), .mem hH hg' ⟨h2, h3⟩⟩
              · exact ⟨undef, fun _ => True, _, _, .inr ⟨hw, rfl⟩, trivial, hk, hput sv hng, .triv (.skip hH)⟩
            unfold loadH at hp
            split at hp
            · rename_i r hr
              split at hp
              · rename_i hchk
                obtain ⟨x, hG, hk⟩ := hp
                rcases hrow with ⟨hr, inf, hi, hsz⟩ | ⟨hr, inf, hi⟩
                · simp only [rcdOK, hr, beq_iff_eq] at hchk
                  exact fin true inf (r.l x) _ hr hi rfl (fun β tm => by rw [if_pos rfl]; exact ⟨r.l x, rfl, all2_vals β _⟩) (fun hg => ⟨by rw [r.hn, hchk, hsz]; rfl, hG hg⟩) hk
                · simp [rcdOK, hr] at hchk
              · exact hp.elim
            rcases hrow with ⟨hr, inf, hi, hsz⟩ | ⟨hr, inf, hi⟩
            · have hshp : vShp P t = .agg (cellShp P 8 t) := by
                unfold isRow at hr
                unfold vShp
                cases hu : P.underlying t with
                | none => simp [hu] at hr
                | some d => cases d <;> simp_all
              rw [hshp] at hp
              obtain ⟨vs, hG, hk⟩ := exCells_ex hp
              exact fin true inf vs _ hr hi rfl (fun β tm => by rw [if_pos rfl]; exact ⟨vs, rfl, all2_vals β vs⟩) (fun hg => ⟨by simpa [hsz] using (hG hg).1, (hG hg).2⟩) hk
            · have hshp : ∃ s, vShp P t = .one s := by
                unfold isRow at hr
                unfold vShp
                cases hu : P.underlying t with
                | none => simp [hu] at hr
                | some d => cases d <;> simp [hu] at hr <;> simp only <;> split <;> exact ⟨_, rfl⟩
              obtain ⟨s, hshp⟩ := hshp
              rw [hshp] at hp
              obtain ⟨v, hG, hk⟩ := exOne_ex hp
              exact fin false inf [v] _ hr hi (ofVal_ng v) (fun β tm => ofVal_rel _ _ _) (fun hg => ⟨rfl, hG hg⟩) hk
          · split at h
            · rename_i hpl
              simp only [Bool.and_eq_true] at hpl
              split at h
              · rename_i s hs
                obtain rfl := Option.some.inj h
                obtain ⟨v, hG, hk⟩ := exR_ex hp
                rcases ways with ⟨hw, hch, hg', hput⟩ | ⟨hw, hput⟩
                · refine ⟨v, fun _ => True, H, _, .inl ⟨hw, fun w1 _ => ?_⟩, trivial, hk, hput _ v (ofVal_ng v) (ofVal_rel _ _ _), .triv hH⟩
                  rw [execOp_rho hS hch hpl.1 hpl.2]
                  exact quietSem_exec hs w1 ((hG hg').out w1)
                · exact ⟨undef, fun _ => True, H, _, .inr ⟨hw, rfl⟩, trivial, hk, hput _ (ofVal_ng v), .triv hH⟩
              · split at h
                · cases h
                · split at h
                  · rename_i v hv
                    obtain rfl := Option.some.inj h
                    rcases ways with ⟨hw, hch, hg', hput⟩ | ⟨hw, hput⟩
                    · refine ⟨v, fun _ => True, H, _, .inl ⟨hw, fun w1 _ => ?_⟩, trivial, hp, hput _ v (ofVal_ng v) (ofVal_rel _ _ _), .triv hH⟩
                      rw [execOp_rho hS hch hpl.1 hpl.2]
                      exact pureRun_run hv
                    · exact ⟨undef, fun _ => True, H, _, .inr ⟨hw, rfl⟩, trivial, hp, hput _ (ofVal_ng v), .triv hH⟩
                  · cases h
            · cases h

theorem takeVC_sound {i : Nat} {H : List (Nat × HK)} {Hs : List (Nat × (World → Prop))} {k : List (Nat × HK) → St → Prop} {p : Prop} (h : takeVC P cfg ops i H st wr NL k = some p) (hp : p) (hS : Sim imp NL β st a w) (hn : Now NL wr w)
    (hH : HRel β st.locs.length (fun a vs => CellsAt wr a vs ∧ NL a.block) H Hs) :
    ∃ o v c H' sv, ops[i]? = some o ∧ YieldsIf P ops c o v a ∧ c w ∧ k H' (st.put o.dst sv) ∧ Sim imp NL β (st.put o.dst sv) (a.put o.dst v) w ∧ HRel β st.locs.length (fun a vs => CellsAt wr a vs ∧ NL a.block) H' ((i, c) :: Hs) := by
  unfold takeVC at h
  split at h
  · cases h
  · rename_i o ho
    split at h
    · rename_i hkg
      obtain ⟨v, c, H', sv, h1, h2, h3, h4, h5⟩ := takeO_sound h hp hS hn hH
      refine ⟨o, v, c, H', sv, ho, ?_, h2, h3, h4, h5⟩
      rcases h1 with ⟨_, h1⟩ | ⟨h1, _⟩
      · exact .inl ⟨kg_run hS hkg, fun w1 hc => by rw [← exec_unguard]; exact h1 w1 hc⟩
      · simp [Region.wanted, unguard] at h1
    · rename_i hkg
      obtain rfl := Option.some.inj h
      exact ⟨o, undef, fun _ => True, H, .one .junk, ho, .inr ⟨kg_skip hS hkg, rfl⟩, trivial, hp, hS.put o.dst (sv := .one .junk) trivial, .triv hH⟩
    · obtain ⟨v, c, H', sv, h1, h2⟩ := takeO_sound h hp hS hn hH
      exact ⟨o, v, c, H', sv, ho, h1, h2⟩

theorem firstSome_some {rs : List Nat} {f : Nat → Option Prop} {p : Prop} (h : firstSome rs f = some p) : ∃ i ∈ rs, f i = some p := by
  induction rs with
  | nil => simp [firstSome] at h
  | cons i l ih =>
    unfold firstSome at h
    split at h
    · rename_i q e
      obtain rfl := Option.some.inj h
      exact ⟨i, List.mem_cons_self, e⟩
    · obtain ⟨j, hj, e⟩ := ih h
      exact ⟨j, List.mem_cons_of_mem _ hj, e⟩

theorem allReady_mem {f : Nat → Prop} : ∀ {rs : List Nat}, allReady rs f → ∀ i ∈ rs, f i
  | [], _, i, hi => by cases hi
  | [j], h, i, hi => by
    obtain rfl : i = j := by simpa using hi
    exact h
  | j :: k :: l, h, i, hi => by
    rcases List.mem_cons.1 hi with rfl | hi
    · exact h.1
    · exact allReady_mem h.2 i hi

/-- One operation that is carried out. -/
theorem branchO_sound {o : Oper} {H : List (Nat × HK)} {Hs : List (Nat × (World → Prop))} {k : St → World → (Nat → Prop) → Prop} (h : branchO P cfg ops o H st wr NL k) (hws : ∀ t, t ∈ opWs ops o → t ∈ ops.toList.filterMap (·.dst)) (hS : Sim imp NL β st a w) (hn : Now NL wr w)
    (hH : HRel β st.locs.length (fun a vs => CellsAt wr a vs ∧ NL a.block) H Hs) (hHw : ∀ h ∈ Hs, h.2 w) {Kr : Act → World → Prop}
    (hk : ∀ β' st' wr' NL' a' w', k st' wr' NL' → Fr (ops.toList.filterMap (·.dst)) st st' → Sim imp NL' β' st' a' w' → Now NL' wr' w' → HRel β' st'.locs.length (fun a vs => CellsAt wr' a vs ∧ NL' a.block) H Hs → (∀ h ∈ Hs, h.2 w') → Kr a' w') :
    if Region.wanted o (yielded ops a.tmps) then o.wp P a w Kr Q else Kr (a.put o.dst undef) w := by
  unfold branchO at h
  · skip
    have hwd : ∀ t, t ∈ o.dst.toList → t ∈ ops.toList.filterMap (·.dst) := fun t ht => hws t (List.mem_append_left _ ht)
    have conv : (if Region.wanted o (yielded ops a.tmps) then o.wp P a w Kr Q else Kr (a.put o.dst undef) w) → (if Region.wanted o (yielded ops a.tmps) then o.wp P a w Kr Q else Kr (a.put o.dst undef) w) := id
    have memF : ∀ {w' : World}, Now NL wr w' → ∀ a vs, (CellsAt wr a vs ∧ NL a.block) → CellsAt w' a vs := fun hn' a vs h => h.1.now h.2 hn'
    have blockF : ∀ {w' : World}, (∀ l, l < st.locs.length → w'.heap[β l]? = w.heap[β l]?) → ∀ (i l off m : Nat) (vs : List Value), (i, HK.loc l off m) ∈ H → l < st.locs.length → vs.length = m → CellsAt w ⟨β l, off, none⟩ vs → CellsAt w' ⟨β l, off, none⟩ vs :=
      fun hb i l off m vs _ hl _ hc => hc.of_block (hb l hl)
    split at h
    · exact h.elim
    · rename_i g hg
      split at h
      · exact h.elim
      · rename_i hself
        have hself : selfGuard o.dst g = false := by simpa using hself
        have hgd : (g = none ∧ o.guard = none) ∨ ∃ s want j, g = some (s, want) ∧ o.guard = some (j, want) ∧ (ops[j]?).bind (·.dst) = some s := by
          unfold guardSlot at hg
          split at hg
          · rename_i e; exact .inl ⟨(Option.some.inj hg).symm, e⟩
          · rename_i j want e
            split at hg
            · rename_i s hs; exact .inr ⟨s, want, j, (Option.some.inj hg).symm, e, hs⟩
            · cases hg
        split at h
        · rename_i l off ys hq
          split at h
          · split at h
            · rename_i hap
              split at h
              · rename_i T xs hl
                have hgn : o.guard = none := by
                  rcases hgd with ⟨_, h⟩ | ⟨_, _, _, h, _⟩
                  · exact h
                  · cases h
                obtain ⟨_, ty, xs', hl', hle, hsure, hst⟩ := storeQ_sound (imp := imp) (NL := NL) hgn hq
                rw [hl] at hl'
                simp only [Option.some.injEq, Prod.mk.injEq] at hl'
                obtain ⟨rfl, rfl⟩ := hl'
                obtain ⟨cs, hb, ha, h1⟩ := hS.loc l T xs hl
                obtain ⟨vs, hv, hrun⟩ := hst β a w hS
                have hvl := hv.length
                have hcl := ha.length
                have hrun := hrun cs hb (by omega)
                have hw : Region.wanted o (yielded ops a.tmps) = true := by simp [Region.wanted, hgn]
                refine conv ?_
                rw [if_pos hw]
                unfold Oper.wp
                rw [hrun, Oper.upon_skip]
                have hll : l < st.locs.length := (List.getElem?_eq_some_iff.1 hl).1
                have hall2 : All2 (FV.rel β) (xs.take off ++ ys ++ xs.drop (off + ys.length)) (cs.take off ++ vs ++ cs.drop (off + vs.length)) := by
                  rw [← hvl]
                  exact ((ha.take off).append hv).append (ha.drop _)
                have hone : ∀ c ∈ cs.take off ++ vs ++ cs.drop (off + vs.length), c.oneCell' = true := fun c hc => by
                  simp only [List.mem_append] at hc
                  rcases hc with (hc | hc) | hc
                  · exact h1 c (List.mem_of_mem_take hc)
                  · exact sure_all hsure hv c hc
                  · exact h1 c (List.mem_of_mem_drop hc)
                refine hk β _ _ _ _ _ h ?_ (hS.upd o.dst hl hall2 hone) (hn.setRow (hS.nl l hll) _) (hH.up (fun _ _ => rfl) (by simp)) (hH.keep (memF (hn.setRow (hS.nl l hll) _)) ?_ hHw)
                · exact Fr.applyL (r := .upd l T (xs.take off ++ ys ++ xs.drop (off + ys.length))) (g := none) hwd rfl
                · intro i' l' off' m vs' hm hl' hvm hc
                  by_cases e : l' = l
                  · subst e
                    have hap' := all_mem_of hap hm
                    simp only [locApart] at hap'
                    refine ⟨fun j v hj => ?_⟩
                    have hc' := hc.out j v hj
                    have hjl : j < m := by rw [← hvm]; exact (List.getElem?_eq_some_iff.1 hj).1
                    rw [add_plain'] at hc' ⊢
                    have hnew := setRow_heap w (β l') cs.toArray (cs.take off ++ vs ++ cs.drop (off + vs.length)).toArray T (0, 0) hb
                    simp only [World.cell?, hb] at hc'
                    simp only [World.cell?, hnew]
                    have hc'' : cs[off' + j]? = some v := by simpa using hc'
                    have hjc : off' + j < cs.length := (List.getElem?_eq_some_iff.1 hc'').1
                    suffices hs : (cs.take off ++ vs ++ cs.drop (off + vs.length))[off' + j]? = some v by simpa using hs
                    simp only [apartR, Bool.or_eq_true, bne_iff_ne, ne_eq, not_true_eq_false, decide_eq_true_eq, false_or] at hap'
                    rcases hap' with hx | hx
                    · have : off + vs.length ≤ off' + j := by omega
                      rw [List.getElem?_append_right (by simp; omega), List.getElem?_drop, ← hc'']
                      congr 1
                      simp
                      omega
                    · rw [List.append_assoc, List.getElem?_append_left (by simp; omega), List.getElem?_take, if_pos (by omega)]
                      exact hc''
                  · exact hc.of_block (setRow_other _ _ _ _ (fun e' => e (hS.inj l' l hl' hll e')))
              · exact h.elim
            · exact h.elim
          · exact h.elim
        · -- ways
          have same : ∀ {st' : St} {a' : Act} {w' : World}, k st' wr NL → Fr (ops.toList.filterMap (·.dst)) st st' → Sim imp NL β st' a' w' → Now NL wr w' → (∀ l, l < st.locs.length → w'.heap[β l]? = w.heap[β l]?) → Kr a' w' := fun h1 h2 h3 h4 h5 =>
            hk β _ _ _ _ _ h1 h2 h3 h4 (hH.up (fun _ _ => rfl) h2.len) (hH.keep (memF h4) (blockF h5) hHw)
          split at h
          · exact h.elim
          · rename_i r hnu hr
            split at h
            · rename_i st' hst
              have hfr := Fr.applyL hwd hst
              rcases hgd with ⟨rfl, hgn⟩ | ⟨s, want, j, rfl, hgs, hs⟩
              · have hw : Region.wanted o (yielded ops a.tmps) = true := by simp [Region.wanted, hgn]
                refine conv ?_
                rw [if_pos hw]
                have hrun := localOp_run hS (ch := []) (fun _ hx => by cases hx) hr
                unfold Oper.wp
                cases r with
                | val sv =>
                  obtain ⟨hng, v, hv, hrel⟩ := hrun
                  rw [hv, Oper.upon_value]
                  simp only [applyL, Option.some.injEq] at hst
                  subst hst
                  exact same h hfr (hS.put o.dst (rel_ng hng hrel)) hn (fun _ _ => rfl)
                | new T xs =>
                  obtain ⟨cs, hv, hrel, h1⟩ := hrun
                  rw [hv, Oper.upon_value]
                  simp only [applyL] at hst
                  split at hst
                  · rename_i hwf
                    simp only [Bool.and_eq_true] at hwf
                    simp only [Option.some.injEq] at hst
                    subst hst
                    obtain ⟨β', hβ, hS'⟩ := hS.new hn.lt' o.dst hrel h1 hwf.1 hwf.2
                    exact hk β' _ _ _ _ _ h hfr hS' (hn.alloc _) (hH.up hβ (by simp)) (hH.keep (memF (hn.alloc _)) (blockF fun l hl => alloc_lt w _ _ (hS.loc_lt hl)) hHw)
                  · cases hst
                | upd l T xs => exact absurd rfl (hnu l T xs)
              · have hwi := wanted_slot (o := o) hgs hs a.tmps
                refine conv ?_
                by_cases hw : a.tmps[s]? = some (.bool want)
                · rw [if_pos (hwi.2 hw)]
                  have hrun := localOp_run hS (chain_ok hS 4 (s, want) hw) hr
                  unfold Oper.wp
                  cases r with
                  | val sv =>
                    obtain ⟨hng, v, hv, hrel⟩ := hrun
                    rw [hv, Oper.upon_value]
                    simp only [applyL, Option.some.injEq] at hst
                    subst hst
                    exact same h hfr (put_gd hS hself hng hw hrel) hn (fun _ _ => rfl)
                  | new T xs => simp [applyL] at hst
                  | upd l T xs => exact absurd rfl (hnu l T xs)
                · rw [if_neg (fun h => hw (hwi.1 h))]
                  cases r with
                  | val sv =>
                    simp only [applyL, Option.some.injEq] at hst
                    subst hst
                    exact same h hfr (put_gd_off hS hself (localOp_ng hr) hw) hn (fun _ _ => rfl)
                  | new T xs => simp [applyL] at hst
                  | upd l T xs => exact absurd rfl (hnu l T xs)
            · exact h.elim
          · rename_i hloc
            split at h
            · rename_i p hq
              obtain ⟨sv, hk1, hng, hqu⟩ := quietVC_sound (imp := imp) (Q := Q) hq h
              refine conv ?_
              rcases hgd with ⟨rfl, hgn⟩ | ⟨s, want, j, rfl, hgs, hs⟩
              · have hw : Region.wanted o (yielded ops a.tmps) = true := by simp [Region.wanted, hgn]
                rw [if_pos hw]
                exact hqu β a w hS (fun _ hx => by cases hx) hn trivial Kr fun v w' hrel hf hn' => same hk1 (Fr.put hwd) ((semNow hS hf).put o.dst (rel_ng hng hrel)) hn' fun l hl => hf.block _ (hS.loc_lt hl) (hS.nl l hl)
              · have hwi := wanted_slot (o := o) hgs hs a.tmps
                by_cases hw : a.tmps[s]? = some (.bool want)
                · rw [if_pos (hwi.2 hw)]
                  exact hqu β a w hS (chain_ok hS 4 (s, want) hw) hn (gcond_of hS 5 (s, want) hw) Kr fun v w' hrel hf hn' => same hk1 (Fr.put hwd) (put_gd (semNow hS hf) hself hng hw hrel) hn' fun l hl => hf.block _ (hS.loc_lt hl) (hS.nl l hl)
                · rw [if_neg (fun h => hw (hwi.1 h))]
                  exact same hk1 (Fr.put hwd) (put_gd_off hS hself hng hw) hn (fun _ _ => rfl)
            · refine conv (opVC_sound2 (Q := Q) hS hn h ?_)
              intro β' st' wr' NL' a' w' hfr hβ hblk hS' hn' hkk
              have hno : ∀ l, l < st.locs.length → w'.heap[β l]? = w.heap[β l]? := fun l hl => by
                refine hblk l hl fun g' T xs hg' e => ?_
                obtain rfl := Option.some.inj (hg.symm.trans hg')
                have : localOp P cfg.esc st (chainOf st g) o = some (.upd l T xs) := e
                rw [hloc] at this
                cases this
              have hfr' := hfr.mono hws
              split at hkk
              · have hnil := hH.hold (wr := wr') (NL := NL') trivial
                exact hk β' _ _ _ _ _ hkk hfr' hS' hn' (hnil.up hβ hfr'.len) (hnil.keep (fun a vs h => h.1.now h.2 hn') (blockF hno) hHw)
              · obtain ⟨hh, hkk⟩ := hkk
                have h' := hH.hold hh
                exact hk β' _ _ _ _ _ hkk hfr' hS' hn' (h'.up hβ hfr'.len) (h'.keep (fun a vs h => h.1.now h.2 hn') (blockF hno) hHw)

theorem branchVC_sound {i : Nat} {H : List (Nat × HK)} {Hs : List (Nat × (World → Prop))} {k : St → World → (Nat → Prop) → Prop} (h : branchVC P cfg ops i H st wr NL k) (hS : Sim imp NL β st a w) (hn : Now NL wr w)
    (hH : HRel β st.locs.length (fun a vs => CellsAt wr a vs ∧ NL a.block) H Hs) (hHw : ∀ h ∈ Hs, h.2 w) {Kr : Act → World → Prop}
    (hk : ∀ β' st' wr' NL' a' w', k st' wr' NL' → Fr (ops.toList.filterMap (·.dst)) st st' → Sim imp NL' β' st' a' w' → Now NL' wr' w' → HRel β' st'.locs.length (fun a vs => CellsAt wr' a vs ∧ NL' a.block) H Hs → (∀ h ∈ Hs, h.2 w') → Kr a' w') :
    wpOp P ops Q i Kr a w := by
  unfold branchVC at h
  split at h
  · exact h.elim
  · rename_i o ho
    have hmem : o ∈ ops.toList := by simpa using Array.mem_of_getElem? ho
    have hws : ∀ t, t ∈ opWs ops o → t ∈ ops.toList.filterMap (·.dst) := opWs_dst o hmem
    have conv : (if Region.wanted o (yielded ops a.tmps) then o.wp P a w Kr Q else Kr (a.put o.dst undef) w) → wpOp P ops Q i Kr a w := fun h => by
      unfold wpOp
      simp only [ho]
      split
      · rename_i hw; rw [if_pos hw] at h; exact .inl h
      · rename_i hw; rw [if_neg hw] at h; exact h
    refine conv ?_
    split at h
    · rename_i hkg
      have := branchO_sound (Q := Q) h (fun t ht => hws t (unguard_ws t ht)) hS hn hH hHw hk
      rw [if_pos (by simp [Region.wanted, unguard])] at this
      rw [if_pos (kg_run hS hkg)]
      exact wp_unguard.1 this
    · rename_i hkg
      rw [if_neg (by simp [kg_skip hS hkg])]
      exact hk β _ _ _ _ _ h (Fr.put fun t ht => hws t (List.mem_append_left _ ht)) (hS.put o.dst (sv := .one .junk) trivial) hn (hH.up (fun _ _ => rfl) (by cases o.dst <;> exact Nat.le_refl _)) hHw
    · exact branchO_sound h hws hS hn hH hHw hk

theorem drawVC_sound {k : St → World → (Nat → Prop) → Prop} {st0 : St} (hns : Region.noSelect ops = true) (hQ : ∀ c a w, ¬ Q (.panic c) a w)
    (hk : ∀ β st wr NL a w, Fr (ops.toList.filterMap (·.dst)) st0 st → Sim imp NL β st a w → Now NL wr w → k st wr NL → Q .normal a w) :
    ∀ (fuel : Nat) {H : List (Nat × HK)} {Hs : List (Nat × (World → Prop))} {listed : Array Bool} {st : St} {wr w : World} {NL : Nat → Prop} {β : Nat → Nat} {a : Act}, Fr (ops.toList.filterMap (·.dst)) st0 st → Sim imp NL β st a w → Now NL wr w → Closed ops listed →
      HRel β st.locs.length (fun a vs => CellsAt wr a vs ∧ NL a.block) H Hs → (∀ h ∈ Hs, h.2 w) → drawVC P cfg ops k fuel H listed st wr NL → wpAnyS P ops Q fuel Hs listed a w
  | 0, H, Hs, listed, st, wr, w, NL, β, a, hf, hS, hn, hcl, hH, hw, h => by
    unfold drawVC at h
    split at h
    · rename_i hr
      exact ⟨hr, hk _ _ _ _ _ _ (hf.trans .clear) hS.clear hn h⟩
    · exact h.elim
  | fuel + 1, H, Hs, listed, st, wr, w, NL, β, a, hf, hS, hn, hcl, hH, hw, h => by
    unfold drawVC at h
    split at h
    · rename_i hr
      exact ⟨fun _ => hk _ _ _ _ _ _ (hf.trans .clear) hS.clear hn h, fun j hj => by rw [hr] at hj; cases hj⟩
    · rename_i hne
      split at h
      · rename_i p hp
        obtain ⟨i, hi, hif⟩ := firstSome_some hp
        split at hif
        · rename_i hfree
          obtain ⟨o, v, c, H', sv, ho, hy, hc, hkk, hS', hH'⟩ := takeVC_sound hif h hS hn hH
          have hmem : o ∈ ops.toList := by simpa using Array.mem_of_getElem? ho
          obtain ⟨hun, o', ho', hall⟩ := mem_ready.1 hi
          obtain rfl := Option.some.inj (ho.symm.trans ho')
          refine wpAnyS_take ho hns hfree hcl hi (fun c a w h => absurd h (hQ _ _ _)) hy hc hw ?_
          have hfr := hf.trans (Fr.put (st := st) (dst := o.dst) (sv := sv) fun t ht => List.mem_filterMap.2 ⟨o, hmem, by simpa using ht⟩)
          refine drawVC_sound hns hQ hk fuel hfr hS' hn (closed_at ho (ready_lt hun) hall hcl) (hH'.up (fun _ _ => rfl) (by cases o.dst <;> exact Nat.le_refl _)) (fun x hx => ?_) hkk
          rcases List.mem_cons.1 hx with rfl | hx
          · exact hc
          · exact hw x hx
        · cases hif
      · refine ⟨fun hr => absurd hr (by simpa using hne), fun j hj => ?_⟩
        have hb := allReady_mem h j hj
        obtain ⟨hun, o, ho, hall⟩ := mem_ready.1 hj
        refine branchVC_sound hb hS hn (hH.drop j) (fun x hx => hw x (List.mem_filter.1 hx).1) fun β' st' wr' NL' a' w' h1 h2 h3 h4 h5 h6 => ⟨h6, ?_⟩
        exact drawVC_sound hns hQ hk fuel (hf.trans h2) h3 h4 (closed_at ho (ready_lt hun) hall hcl) h5 h6 h1

theorem draw2_sound {id : Nat} {k : St → World → (Nat → Prop) → Prop} (hm : P.follows .mixedOrders = true) (hns : Region.noSelect ops = true) (hS : Sim imp NL β st a w) (hn : Now NL wr w)
    (h : drawVC P cfg ops k ops.size [] (Array.replicate ops.size false) st wr NL)
    (hk : ∀ β st' wr NL a w, Fr (ops.toList.filterMap (·.dst)) st st' → Sim imp NL β st' a w → Now NL wr w → k st' wr NL → Q .normal a w) : (Code.region id ops true).wp P Q a w := by
  refine Code.wp_mono NoPan.imp (wp_region_any hm (wpAny_of_S _ [] _ _ _ (drawVC_sound (Q := NoPan Q) hns (fun _ _ _ h => h) (fun β st' wr NL a w h1 h2 h3 h4 => hk β st' wr NL a w h1 h2 h3 h4) ops.size (.refl _ _)
    (w := { w with drawn := w.drawn + 1 }) ⟨hS.size, hS.slot, hS.defers, hS.loc, hS.inj, hS.nl, hS.impl, hS.impb⟩ ⟨hn.os, hn.tape, hn.output, hn.size, hn.lt, hn.block⟩ (fun j o _ hj => ?_) .nil (fun h hh => by cases hh) h)))
  rw [Array.getD_eq_getD_getElem?, Array.getElem?_replicate] at hj
  split at hj <;> cases hj
end
end Go.Eng
