/-
  The symbolic executor, part two: states, operands, operations on tracked blocks.
-/
import Derived.Test.YtboedgnahmibcaaDoorEngA
import Derived.Laws.StructEq
namespace Go.Eng
open Go

structure St where
  slots : List SV
  locs : List (TypeId × List FV)
  /-- Which tracked blocks were written since a loop's head, the innermost first. -/
  dirt : List (List Nat) := []

def St.get (st : St) (t : Nat) : SV := st.slots.getD t (.one .junk)

def SV.strip (ch : List (Nat × Bool)) : SV → SV
  | .gd s w x => if ch.contains (s, w) then x.strip ch else .one .junk
  | x => x

def ev (st : St) (ch : List (Nat × Bool)) : Operand → SV
  | .tmp t => (st.get t).strip ch
  | .const v => ofVal v
  | .global g => .one (.val (.pointer (some ⟨g, 0, none⟩)))
  | .func f => .one (.val (.func (.func f) #[] #[]))

structure Sim (imp : List Nat) (NL : Nat → Prop) (β : Nat → Nat) (st : St) (a : Act) (w : World) : Prop where
  size : a.tmps.size = st.slots.length
  slot : ∀ t, (st.get t).rel β a.tmps (a.tmps.getD t undef)
  defers : a.defers = []
  loc : ∀ i T xs, st.locs[i]? = some (T, xs) → ∃ cs : List Value, w.heap[β i]? = some (.cells cs.toArray T (0, 0)) ∧ All2 (FV.rel β) xs cs ∧ ∀ c ∈ cs, c.oneCell' = true
  inj : ∀ i j, i < st.locs.length → j < st.locs.length → β i = β j → i = j
  nl : ∀ i, i < st.locs.length → ¬ NL (β i)
  impl : imp.length ≤ st.locs.length
  impb : ∀ (i b : Nat), imp[i]? = some b → β i = b

theorem rel_ng {β : Nat → Nat} {tm tm' : Array Value} {sv : SV} {v : Value} (h : sv.ng = true) (hr : sv.rel β tm v) : sv.rel β tm' v := by
  cases sv <;> first | exact hr | (simp [SV.ng] at h)

theorem strip_ng (ch : List (Nat × Bool)) : ∀ sv : SV, (sv.strip ch).ng = true
  | .one _ => rfl
  | .agg _ => rfl
  | .gd s w x => by
    unfold SV.strip
    split
    · exact strip_ng ch x
    · rfl

theorem ofVal_ng (v : Value) : (ofVal v).ng = true := by cases v <;> rfl

theorem ev_ng (st : St) (ch : List (Nat × Bool)) (x : Operand) : (ev st ch x).ng = true := by
  cases x <;> first | exact strip_ng _ _ | exact ofVal_ng _ | rfl

def chOK (ch : List (Nat × Bool)) (tm : Array Value) : Prop := ∀ g ∈ ch, tm[g.1]? = some (.bool g.2)

theorem strip_rel {β : Nat → Nat} {tm : Array Value} {ch : List (Nat × Bool)} (hch : chOK ch tm) : ∀ {sv : SV} {v : Value}, sv.rel β tm v → (sv.strip ch).rel β tm v
  | .one _, _, h => h
  | .agg _, _, h => h
  | .gd s w x, v, h => by
    unfold SV.strip
    split
    · rename_i hc
      exact strip_rel hch (h.2.1 (hch (s, w) (by simpa using hc)))
    · trivial

theorem ev_rel {imp : List Nat} {NL : Nat → Prop} {β : Nat → Nat} {st : St} {a : Act} {w : World} (hS : Sim imp NL β st a w) {ch : List (Nat × Bool)} (hch : chOK ch a.tmps) (x : Operand) : (ev st ch x).rel β a.tmps (a.eval x) := by
  cases x with
  | tmp t => exact strip_rel hch (hS.slot t)
  | const v => exact ofVal_rel _ _ _
  | global g => rfl
  | func f => rfl

/-- The guards that stand behind a guard. -/
def chain (st : St) : Nat → Nat × Bool → List (Nat × Bool)
  | 0, g => [g]
  | n + 1, g => g :: (match st.get g.1 with
    | .gd s w _ => chain st n (s, w)
    | _ => [])

theorem getD_of_get {tm : Array Value} {s : Nat} {b : Bool} (h : tm[s]? = some (.bool b)) : tm.getD s undef = .bool b := by
  simp [Array.getD_eq_getD_getElem?, h]
theorem get_of_getD {tm : Array Value} {s : Nat} {b : Bool} (h : tm.getD s undef = .bool b) : tm[s]? = some (.bool b) := by
  rw [Array.getD_eq_getD_getElem?] at h
  cases e : tm[s]? with
  | none => rw [e] at h; simp [undef] at h
  | some v => rw [e] at h; simpa using h

theorem chain_ok {imp : List Nat} {NL : Nat → Prop} {β : Nat → Nat} {st : St} {a : Act} {w : World} (hS : Sim imp NL β st a w) : ∀ (n : Nat) (g : Nat × Bool), a.tmps[g.1]? = some (.bool g.2) → chOK (chain st n g) a.tmps
  | 0, g, h => fun x hx => by simp [chain] at hx; subst hx; exact h
  | n + 1, g, h => fun x hx => by
    simp only [chain, List.mem_cons] at hx
    rcases hx with rfl | hx
    · exact h
    · split at hx
      · rename_i s w' y e
        have hr := hS.slot g.1
        rw [e, getD_of_get h] at hr
        refine chain_ok hS n (s, w') ?_ x hx
        by_cases hg : a.tmps[s]? = some (.bool w')
        · exact hg
        · have := hr.2.2 hg
          simp [undef] at this
      · cases hx

/-- What is known where a guard lets by. -/
def gcond (st : St) : Nat → Nat × Bool → Prop
  | 0, _ => True
  | n + 1, g => match st.get g.1 with
    | .one (.val (.bool b)) => b = g.2
    | .one (.kb b) => b = g.2
    | .gd s w (.one (.val (.bool b))) => gcond st n (s, w) ∧ b = g.2
    | _ => True

theorem gcond_of {imp : List Nat} {NL : Nat → Prop} {β : Nat → Nat} {st : St} {a : Act} {w : World} (hS : Sim imp NL β st a w) : ∀ (n : Nat) (g : Nat × Bool), a.tmps[g.1]? = some (.bool g.2) → gcond st n g
  | 0, _, _ => trivial
  | n + 1, g, h => by
    have hr := hS.slot g.1
    rw [getD_of_get h] at hr
    unfold gcond
    split
    · rename_i b e
      rw [e] at hr
      have : Value.bool g.2 = Value.bool b := hr
      simpa using this.symm
    · rename_i b e
      rw [e] at hr
      have : Value.bool g.2 = Value.bool b := hr
      simpa using this.symm
    · rename_i s w' b e
      rw [e] at hr
      by_cases hg : a.tmps[s]? = some (.bool w')
      · have : Value.bool g.2 = Value.bool b := hr.2.1 hg
        exact ⟨gcond_of hS n _ hg, by simpa using this.symm⟩
      · have := hr.2.2 hg
        simp [undef] at this
    · trivial

def pickArm (st : St) (ch : List (Nat × Bool)) (c : Operand) (w : Bool) : Operand → Option Bool
  | .tmp t => match c with
    | .tmp s => match (st.get t).strip ((s, w) :: ch) with
      | .one (.val (.bool b)) => some b
      | .one (.kb b) => some b
      | _ => none
    | _ => none
  | .const (.bool b) => some b
  | _ => none

theorem pickArm_eval {imp : List Nat} {NL : Nat → Prop} {β : Nat → Nat} {st : St} {a : Act} {w : World} (hS : Sim imp NL β st a w) {ch : List (Nat × Bool)} (hch : chOK ch a.tmps) {c x : Operand} {want b : Bool}
    (h : pickArm st ch c want x = some b) (hc : a.eval c = .bool want) : a.eval x = .bool b := by
  cases x with
  | tmp t =>
    cases c with
    | tmp s =>
      simp only [pickArm] at h
      have hs : a.tmps[s]? = some (.bool want) := get_of_getD hc
      have hr := strip_rel (ch := (s, want) :: ch) (fun g hg => by
        simp only [List.mem_cons] at hg
        rcases hg with rfl | hg
        · exact hs
        · exact hch g hg) (hS.slot t)
      split at h
      · rename_i b' e
        rw [e] at hr
        obtain rfl := Option.some.inj h
        exact hr
      · rename_i b' e
        rw [e] at hr
        obtain rfl := Option.some.inj h
        exact hr
      · cases h
    | _ => simp [pickArm] at h
  | const v =>
    cases v <;> simp [pickArm] at h
    subst h
    rfl
  | _ => simp [pickArm] at h

def pickSV (st : St) (ch : List (Nat × Bool)) (c x y : Operand) : Option SV :=
  match ev st ch c with
  | .one (.kb true) => some (ev st ch x)
  | .one (.kb false) => some (ev st ch y)
  | .one (.val (.bool cb)) =>
    match y with
    | .const (.bool false) => (pickArm st ch c true x).map fun b => .one (.val (.bool (cb && b)))
    | _ => match x with
      | .const (.bool true) => (pickArm st ch c false y).map fun b => .one (.val (.bool (cb || b)))
      | _ => none
  | _ => none

theorem pick_rel {imp : List Nat} {NL : Nat → Prop} {β : Nat → Nat} {st : St} {a : Act} {w : World} (hS : Sim imp NL β st a w) {ch : List (Nat × Bool)} (hch : chOK ch a.tmps) {c x y : Operand} {sv : SV}
    (h : pickSV st ch c x y = some sv) : ∃ cb, a.eval c = .bool cb ∧ sv.rel β a.tmps (if cb then a.eval x else a.eval y) := by
  have hc := ev_rel hS hch c
  unfold pickSV at h
  split at h
  · rename_i e
    rw [e] at hc
    obtain rfl := Option.some.inj h
    exact ⟨true, hc, ev_rel hS hch x⟩
  · rename_i e
    rw [e] at hc
    obtain rfl := Option.some.inj h
    exact ⟨false, hc, ev_rel hS hch y⟩
  · rename_i cb e
    rw [e] at hc
    have hc' : a.eval c = .bool cb := hc
    refine ⟨cb, hc', ?_⟩
    split at h
    · simp only [Option.map_eq_some_iff] at h
      obtain ⟨b, h1, rfl⟩ := h
      cases cb with
      | false => rfl
      | true =>
        have := pickArm_eval hS hch h1 hc'
        simp [SV.rel, FV.rel, this]
    · split at h
      · simp only [Option.map_eq_some_iff] at h
        obtain ⟨b, h1, rfl⟩ := h
        cases cb with
        | true => rfl
        | false =>
          have := pickArm_eval hS hch h1 hc'
          simp [SV.rel, FV.rel, this]
      · cases h
  · cases h

/-! ### tracked blocks -/
def isRow (P : Program) (t : TypeId) : Option Bool :=
  match P.underlying t with
  | some (.struct _) => some true
  | some (.array _ _) => some true
  | some _ => some false
  | none => none

def loadLoc (P : Program) (t : TypeId) (xs : List FV) (o : Nat) : Option SV :=
  match isRow P t, P.info? t with
  | some true, some i => if o + i.size ≤ xs.length then some (.agg ((xs.drop o).take i.size)) else none
  | some false, some _ => match xs[o]? with
    | some f => some (.one f)
    | none => none
  | _, _ => none

def cellsSV : SV → Option (List FV)
  | .one f => some [f]
  | .agg xs => some xs
  | .gd _ _ _ => none

def FV.sure : FV → Bool
  | .val v => v.oneCell'
  | .loc _ _ => true
  | .kb _ => true
  | .junk => false

def storeLoc (P : Program) (t : TypeId) (xs : List FV) (o : Nat) (sv : SV) : Option (List FV) :=
  match cellsSV sv, P.info? t with
  | some ys, some i => if ys.length = i.size ∧ o + ys.length ≤ xs.length ∧ ys.all FV.sure = true then some (xs.take o ++ ys ++ xs.drop (o + ys.length)) else none
  | _, _ => none

def fieldOff (P : Program) (s : TypeId) (f : Nat) : Option Nat :=
  match P.underlying s with
  | some (.struct fs) => match fs[f]? with
    | some fd => match P.info? fd.type with
      | some i => if i.size = 0 then none else some fd.offset
      | none => none
    | none => none
  | _ => none

def zeroFV (P : Program) (t : TypeId) : Option (List FV) :=
  match P.info? t with
  | some i => match i.zero with
    | some v => match cellsSV (ofVal v) with
      | some ys => if ys.all FV.sure then some ys else none
      | none => none
    | none => none
  | none => none

/-! ### '==' of structs as one Bool -/
def partV (P : Program) (t : TypeId) (cs : Array Value) (off : Nat) : Option Value :=
  match isRow P t, P.info? t with
  | some true, some i => some (.agg (cs.extract off (off + i.size)))
  | some false, some _ => cs[off]?
  | _, _ => none

def andO (r : Bool) : Option Bool → Bool
  | none => r
  | some s => r && s

def eqTy (P : Program) : Nat → TypeId → Value → Value → Option Bool
  | 0, _, _, _ => none
  | d + 1, t, x, y =>
    match P.underlying t, x, y with
    | some (.int _), .int k a, .int k' b => if k = k' then some (a == b) else none
    | some .bool, .bool a, .bool b => some (a == b)
    | some .string, .string a, .string b => some (a == b)
    | some (.struct fs), .agg xs, .agg ys => if P.stoodInHeld t = true then none else
      (fs.toList.foldr (fun f acc => if f.name = "_" then acc else
        match acc, partV P f.type xs f.offset, partV P f.type ys f.offset with
        | some s, some a, some b => (eqTy P d f.type a b).map fun r => some (andO r s)
        | _, _, _ => none) (some none)).map fun s => s.getD true
    | _, _, _ => none

def eqSV (P : Program) (op : BinOp) (t : TypeId) (x y : SV) : Option Bool :=
  match x.toVal, y.toVal with
  | some (.agg xs), some (.agg ys) => if P.eqGuardType P.depth t = true then none else
    match op with
    | .eql => eqTy P 12 t (.agg xs) (.agg ys)
    | .neq => (eqTy P 12 t (.agg xs) (.agg ys)).map (! ·)
    | _ => none
  | _, _ => none

theorem run_part {P : Program} {t : TypeId} {cs : Array Value} {off : Nat} {v : Value} {w : World} (h : partV P t cs off = some v) : (part t cs off).run P w = .ok v w := by
  unfold partV isRow at h
  cases hu : P.underlying t with
  | none => simp [hu] at h
  | some d =>
    cases hi : P.info? t with
    | none => cases d <;> simp [hu, hi] at h
    | some i =>
      have hau : (isAgg t).run P w = .ok (match d with | .struct _ | .array _ _ => true | _ => false) w := by
        simp only [isAgg, Sem.run_bind, run_underlying hu, Result.andThen_ok]
        cases d <;> simp
      cases d <;> simp only [hu, hi] at h <;> simp only [part, Sem.run_bind, hau, Result.andThen_ok] <;>
        first
          | (simp only [if_true]; simp [sizeOf, typeInfo, hi]; simpa using h)
          | (simp [h])

theorem eqTy_run {P : Program} {w : World} : ∀ {n : Nat} {t : TypeId} {x y : Value} {b : Bool}, eqTy P n t x y = some b → ∀ d, n ≤ d → (Op.equalIn d t x y).run P w = .ok b w
  | 0, _, _, _, _, h, _, _ => by simp [eqTy] at h
  | n + 1, t, x, y, b, h, d, hd => by
    obtain ⟨d, rfl⟩ : ∃ m, d = m + 1 := ⟨d - 1, by omega⟩
    unfold eqTy at h
    split at h
    · rename_i k0 k a k' b' hu
      split at h
      · rename_i e
        subst e
        obtain rfl := Option.some.inj h
        exact run_equalIn_int w d t k k0 a b' hu
      · cases h
    · rename_i a b' hu
      obtain rfl := Option.some.inj h
      exact run_equalIn_bool' w d t a b' hu
    · rename_i a b' hu
      obtain rfl := Option.some.inj h
      rw [run_equalIn_string w d t a b' hu, beq_toListBytes]
    · rename_i fs xs ys hu
      split at h
      · cases h
      · rename_i hp
        have hf : P.fieldsOf t = fs := by simp [Program.fieldsOf, hu]
        rw [run_equalIn_struct (P := P) w d t xs ys (by rw [hf]; exact hu) (by simpa using hp), hf]
        clear hf hu
        simp only [Option.map_eq_some_iff] at h
        obtain ⟨s, hs, rfl⟩ := h
        generalize fs.toList = l at hs
        induction l generalizing s with
        | nil =>
          simp only [List.foldr_nil, Option.some.injEq] at hs
          subst hs
          simp [Op.eqFields]
        | cons f l ih =>
          simp only [List.foldr_cons] at hs
          split at hs
          · rename_i hn
            rw [Op.eqFields, if_neg (by simpa using hn)]
            exact ih _ hs
          · rename_i hn
            split at hs
            · rename_i s' a b' e1 e2 e3
              simp only [Option.map_eq_some_iff] at hs
              obtain ⟨r, hr, rfl⟩ := hs
              have ih' := ih _ e1
              rw [Op.eqFields, if_pos hn]
              simp only [Sem.run_bind, run_part e2, run_part e3, eqTy_run hr d (by omega), Result.andThen_ok]
              cases r with
              | false => cases s' <;> simp [andO]
              | true =>
                simp only [Bool.not_true, Bool.false_eq_true, if_false]
                rw [ih']
                cases s' <;> simp [andO]
            · cases hs
    · cases h

inductive LRes where
  | val (sv : SV)
  | new (T : TypeId) (xs : List FV)
  | upd (i : Nat) (T : TypeId) (xs : List FV)

def localOp (P : Program) (esc : Nat → Bool) (st : St) (ch : List (Nat × Bool)) (o : Oper) : Option LRes :=
  match o.op with
  | .move x => some (.val (ev st ch x))
  | .assign x => some (.val (ev st ch x))
  | .pick c x y => (pickSV st ch c x y).map .val
  | .alloc t => if (o.dst.map esc).getD false then none else (zeroFV P t).map (.new t)
  | .box t x => if (o.dst.map esc).getD false then none else match cellsSV (ev st ch x) with
    | some ys => if ys.all FV.sure then some (.new t ys) else none
    | none => none
  | .load t x => match ev st ch x with
    | .one (.loc i off) => match st.locs[i]? with
      | some (_, xs) => (loadLoc P t xs off).map .val
      | none => none
    | _ => none
  | .store t p x => match ev st ch p with
    | .one (.loc i off) => match st.locs[i]? with
      | some (T, xs) => (storeLoc P t xs off (ev st ch x)).map (.upd i T)
      | none => none
    | _ => none
  | .fieldAddr s x f => match ev st ch x with
    | .one (.loc i off) => (fieldOff P s f).map fun d => .val (.one (.loc i (off + d)))
    | _ => none
  | .nilCheck x => match ev st ch x with
    | .one (.loc i off) => some (.val (.one (.loc i off)))
    | _ => none
  | .binOp op t x y _ => (eqSV P op t (ev st ch x) (ev st ch y)).map fun b => .val (.one (.val (.bool b)))
  | _ => none

theorem All2.length {α γ : Type} {R : α → γ → Prop} : ∀ {l : List α} {m : List γ}, All2 R l m → l.length = m.length
  | _, _, .nil => rfl
  | _, _, .cons _ h => by simp [h.length]
theorem All2.append {α γ : Type} {R : α → γ → Prop} : ∀ {l l' : List α} {m m' : List γ}, All2 R l m → All2 R l' m' → All2 R (l ++ l') (m ++ m')
  | _, _, _, _, .nil, h => h
  | _, _, _, _, .cons h1 h2, h => .cons h1 (h2.append h)
theorem All2.take {α γ : Type} {R : α → γ → Prop} : ∀ {l : List α} {m : List γ}, All2 R l m → ∀ n, All2 R (l.take n) (m.take n)
  | _, _, .nil, n => by simpa using All2.nil
  | _, _, .cons h1 h2, 0 => .nil
  | _, _, .cons h1 h2, n + 1 => .cons h1 (h2.take n)
theorem All2.drop {α γ : Type} {R : α → γ → Prop} : ∀ {l : List α} {m : List γ}, All2 R l m → ∀ n, All2 R (l.drop n) (m.drop n)
  | _, _, .nil, n => by simpa using All2.nil
  | _, _, .cons h1 h2, 0 => .cons h1 h2
  | _, _, .cons h1 h2, n + 1 => h2.drop n
theorem All2.get {α γ : Type} {R : α → γ → Prop} : ∀ {l : List α} {m : List γ}, All2 R l m → ∀ {n : Nat} {x : α}, l[n]? = some x → ∃ y, m[n]? = some y ∧ R x y
  | _, _, .nil, n, x, h => by simp at h
  | _, _, .cons h1 h2, 0, x, h => by simp at h; subst h; exact ⟨_, rfl, h1⟩
  | _, _, .cons h1 h2, n + 1, x, h => by simpa using h2.get (by simpa using h)

theorem sure_one {β : Nat → Nat} {f : FV} {v : Value} (h : f.sure = true) (hr : f.rel β v) : v.oneCell' = true := by
  cases f with
  | val u => obtain rfl : v = u := hr; exact h
  | loc i o => obtain rfl : v = _ := hr; rfl
  | kb b => obtain rfl : v = _ := hr; rfl
  | junk => simp [FV.sure] at h
theorem sure_all {β : Nat → Nat} : ∀ {ys : List FV} {cs : List Value}, ys.all FV.sure = true → All2 (FV.rel β) ys cs → ∀ c ∈ cs, c.oneCell' = true
  | _, _, _, .nil => by simp
  | _, _, h, .cons h1 h2 => by
    simp only [List.all_cons, Bool.and_eq_true] at h
    intro c hc
    simp only [List.mem_cons] at hc
    rcases hc with rfl | hc
    · exact sure_one h.1 h1
    · exact sure_all h.2 h2 c hc

theorem oneCell_cells {v : Value} (h : v.oneCell' = true) : v.cells = #[v] := by cases v <;> simp_all [Value.oneCell', Value.cells]

theorem cellsSV_rel {β : Nat → Nat} {tm : Array Value} {sv : SV} {ys : List FV} {v : Value} (h : cellsSV sv = some ys) (hs : ys.all FV.sure = true) (hr : sv.rel β tm v) :
    All2 (FV.rel β) ys v.cells.toList := by
  cases sv with
  | one f =>
    simp only [cellsSV, Option.some.injEq] at h
    subst h
    have h1 : v.oneCell' = true := sure_one (by simpa using hs) hr
    rw [oneCell_cells h1]
    exact .cons hr .nil
  | agg xs =>
    simp only [cellsSV, Option.some.injEq] at h
    subst h
    obtain ⟨cs, rfl, ha⟩ := hr
    simpa [Value.cells] using ha
  | gd s w x => simp [cellsSV] at h

theorem add_plain' (b o j : Nat) : (⟨b, o, none⟩ : Addr).add j = ⟨b, o + j, none⟩ := by unfold Addr.add; split <;> simp_all

theorem run_loadLoc {P : Program} {β : Nat → Nat} {tm : Array Value} {t : TypeId} {xs : List FV} {off : Nat} {sv : SV} {w : World} {b : Nat} {T : TypeId} {cs : List Value}
    (h : loadLoc P t xs off = some sv) (hb : w.heap[b]? = some (.cells cs.toArray T (0, 0))) (ha : All2 (FV.rel β) xs cs) :
    ∃ v, (loadVar t ⟨b, off, none⟩).run P w = .ok v w ∧ sv.rel β tm v := by
  unfold loadLoc isRow at h
  have hcell : ∀ j v, cs[j]? = some v → w.cell? ⟨b, j, none⟩ = some v := fun j v hv => by simp [World.cell?, hb, hv]
  cases hu : P.underlying t with
  | none => simp [hu] at h
  | some d =>
    cases hi : P.info? t with
    | none => cases d <;> simp [hu, hi] at h
    | some i =>
      have hsz : (sizeOf t).run P w = .ok i.size w := by simp [sizeOf, typeInfo, hi]
      have row : (h : (if off + i.size ≤ xs.length then some (SV.agg ((xs.drop off).take i.size)) else none) = some sv) → (isAgg t).run P w = .ok true w →
          ∃ v, (loadVar t ⟨b, off, none⟩).run P w = .ok v w ∧ sv.rel β tm v := fun h hagg => by
        split at h
        · rename_i hle
          obtain rfl := Option.some.inj h
          have hl := ha.length
          have hlen : ((cs.drop off).take i.size).length = i.size := by simp; omega
          have hload := run_loadCells_list (P := P) w ⟨b, off, none⟩ ((cs.drop off).take i.size) (fun j v hj => by
            rw [add_plain']
            refine hcell _ _ ?_
            have hj' := hj
            rw [List.getElem?_take] at hj'
            split at hj'
            · rwa [List.getElem?_drop] at hj'
            · cases hj')
          rw [hlen] at hload
          exact ⟨_, by simp [loadVar, hagg, hsz, hload], _, rfl, (ha.drop off).take i.size⟩
        · cases h
      have single : (h : (match xs[off]? with | some f => some (SV.one f) | none => none) = some sv) → (isAgg t).run P w = .ok false w →
          ∃ v, (loadVar t ⟨b, off, none⟩).run P w = .ok v w ∧ sv.rel β tm v := fun h hagg => by
        split at h
        · rename_i f hf
          obtain rfl := Option.some.inj h
          obtain ⟨v, hv, hr⟩ := ha.get hf
          exact ⟨v, by simp [loadVar, hagg, run_load, hcell _ _ hv], hr⟩
        · cases h
      have hau : (isAgg t).run P w = .ok (match d with | .struct _ | .array _ _ => true | _ => false) w := by
        simp only [isAgg, Sem.run_bind, run_underlying hu, Result.andThen_ok]
        cases d <;> simp
      cases d <;> simp only [hu, hi] at h <;> first | exact row h hau | exact single h hau

theorem run_storeLoc {P : Program} {β : Nat → Nat} {tm : Array Value} {t : TypeId} {xs zs : List FV} {off : Nat} {sv : SV} {w : World} {b : Nat} {T : TypeId} {cs : List Value} {v : Value}
    (h : storeLoc P t xs off sv = some zs) (hb : w.heap[b]? = some (.cells cs.toArray T (0, 0))) (ha : All2 (FV.rel β) xs cs) (h1 : ∀ c ∈ cs, c.oneCell' = true) (hr : sv.rel β tm v) :
    ∃ ds : List Value, (storeVar t ⟨b, off, none⟩ v).run P w = .ok () (w.setRow b ds.toArray) ∧ All2 (FV.rel β) zs ds ∧ ∀ c ∈ ds, c.oneCell' = true := by
  unfold storeLoc at h
  split at h
  · rename_i ys i hc hi
    split at h
    · rename_i hh
      obtain ⟨hsz, hle, hs⟩ := hh
      obtain rfl := Option.some.inj h
      have hcells := cellsSV_rel hc hs hr
      have hone := sure_all hs hcells
      have hlen := hcells.length
      have hl := ha.length
      have hst := run_storeCells_at P b off T v.cells.toList 0 cs.toArray w hb (by simp; simp at hlen; omega) hone
      refine ⟨cs.take off ++ v.cells.toList ++ cs.drop (off + v.cells.toList.length), ?_, ?_, ?_⟩
      · have : v.cells.size = i.size := by simp at hlen; omega
        simp [storeVar, sizeOf, typeInfo, hi, this]
        simpa [this] using hst
      · rw [← hlen]; exact ((ha.take off).append hcells).append (ha.drop _)
      · intro c hc
        simp only [List.mem_append] at hc
        rcases hc with (hc | hc) | hc
        · exact h1 c (List.mem_of_mem_take hc)
        · exact hone c hc
        · exact h1 c (List.mem_of_mem_drop hc)
    · cases h
  · cases h

end Go.Eng
