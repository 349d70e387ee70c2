/-
  The symbolic executor, part three: one operation, a list of operations.
-/
import Derived.Test.YtboedgnahmibcaaDoorEngB
namespace Go.Eng
open Go Go.RowKit

theorem localOp_run {P : Program} {imp : List Nat} {NL : Nat → Prop} {β : Nat → Nat} {st : St} {a : Act} {w : World} (hS : Sim imp NL β st a w) {ch : List (Nat × Bool)} (hch : chOK ch a.tmps) {esc : Nat → Bool} {o : Oper} {r : LRes}
    (h : localOp P esc st ch o = some r) : match r with
      | .val sv => sv.ng = true ∧ ∃ v, (execOp a.eval o).run P w = .ok (.value v) w ∧ sv.rel β a.tmps v
      | .new T xs => ∃ cs : List Value, (execOp a.eval o).run P w = .ok (.value (.pointer (some ⟨w.heap.size, 0, none⟩))) (w.alloc (.cells cs.toArray T)) ∧ All2 (FV.rel β) xs cs ∧ ∀ c ∈ cs, c.oneCell' = true
      | .upd i T xs => ∃ (old : List FV) (cs : List Value), st.locs[i]? = some (T, old) ∧ (execOp a.eval o).run P w = .ok .skip (w.setRow (β i) cs.toArray) ∧ All2 (FV.rel β) xs cs ∧ ∀ c ∈ cs, c.oneCell' = true := by
  obtain ⟨dst, op, type, pos, after, guard⟩ := o
  cases op <;> simp only [localOp] at h <;> try (cases h; done)
  case move x =>
    obtain rfl := Option.some.inj h
    exact ⟨ev_ng _ _ _, _, by simp [execOp], ev_rel hS hch x⟩
  case assign x =>
    obtain rfl := Option.some.inj h
    exact ⟨ev_ng _ _ _, _, by simp [execOp], ev_rel hS hch x⟩
  case pick c x y =>
    simp only [Option.map_eq_some_iff] at h
    obtain ⟨sv, h1, rfl⟩ := h
    obtain ⟨cb, hc, hr⟩ := pick_rel hS hch h1
    refine ⟨?_, _, by simp [execOp, hc, asBool], hr⟩
    unfold pickSV at h1
    split at h1
    · obtain rfl := Option.some.inj h1; exact ev_ng _ _ _
    · obtain rfl := Option.some.inj h1; exact ev_ng _ _ _
    · split at h1
      · simp only [Option.map_eq_some_iff] at h1
        obtain ⟨_, _, rfl⟩ := h1; rfl
      · split at h1
        · simp only [Option.map_eq_some_iff] at h1
          obtain ⟨_, _, rfl⟩ := h1; rfl
        · cases h1
    · cases h1
  case alloc t =>
    split at h
    · cases h
    · simp only [Option.map_eq_some_iff] at h
      obtain ⟨ys, h1, rfl⟩ := h
      unfold zeroFV at h1
      split at h1
      · rename_i i hi
        split at h1
        · rename_i v hv
          split at h1
          · rename_i zs hz
            split at h1
            · rename_i hs
              obtain rfl := Option.some.inj h1
              have hr := cellsSV_rel (tm := a.tmps) hz hs (ofVal_rel β a.tmps v)
              exact ⟨v.cells.toList, by simp [execOp, Instr.alloc, zeroValue, typeInfo, hi, hv, newVar, newRow], hr, sure_all hs hr⟩
            · cases h1
          · cases h1
        · cases h1
      · cases h1
  case box t x =>
    split at h
    · cases h
    · split at h
      · rename_i ys hy
        split at h
        · rename_i hs
          obtain rfl := Option.some.inj h
          have hr := cellsSV_rel hy hs (ev_rel hS hch x)
          exact ⟨(a.eval x).cells.toList, by simp [execOp, Instr.box, newVar, newRow], hr, sure_all hs hr⟩
        · cases h
      · cases h
  case load t x =>
    split at h
    · rename_i i off e
      split at h
      · rename_i T xs hl
        simp only [Option.map_eq_some_iff] at h
        obtain ⟨sv, h1, rfl⟩ := h
        have hx := ev_rel hS hch x
        rw [e] at hx
        have hx' : a.eval x = .pointer (some ⟨β i, off, none⟩) := hx
        obtain ⟨cs, hb, ha, _⟩ := hS.loc i T xs hl
        obtain ⟨v, hv, hr⟩ := run_loadLoc (tm := a.tmps) h1 hb ha
        refine ⟨?_, v, by simp [execOp, Instr.loadAt, hx', Instr.sureAddr, hv], hr⟩
        unfold loadLoc at h1
        split at h1
        · split at h1
          · obtain rfl := Option.some.inj h1; rfl
          · cases h1
        · split at h1
          · obtain rfl := Option.some.inj h1; rfl
          · cases h1
        · cases h1
      · cases h
    · cases h
  case store t p x =>
    split at h
    · rename_i i off e
      split at h
      · rename_i T xs hl
        simp only [Option.map_eq_some_iff] at h
        obtain ⟨zs, h1, rfl⟩ := h
        have hp := ev_rel hS hch p
        rw [e] at hp
        have hp' : a.eval p = .pointer (some ⟨β i, off, none⟩) := hp
        obtain ⟨cs, hb, ha, hone⟩ := hS.loc i T xs hl
        obtain ⟨ds, hv, hr, hd⟩ := run_storeLoc h1 hb ha hone (ev_rel hS hch x)
        exact ⟨xs, ds, hl, by simp [execOp, Instr.storeAt, hp', Instr.sureAddr, hv], hr, hd⟩
      · cases h
    · cases h
  case fieldAddr s x f =>
    split at h
    · rename_i i off e
      simp only [Option.map_eq_some_iff] at h
      obtain ⟨d, h1, rfl⟩ := h
      have hx := ev_rel hS hch x
      rw [e] at hx
      have hx' : a.eval x = .pointer (some ⟨β i, off, none⟩) := hx
      unfold fieldOff at h1
      split at h1
      · rename_i fs hu
        split at h1
        · rename_i fd hf
          split at h1
          · rename_i ti hi
            split at h1
            · cases h1
            · rename_i hz
              obtain rfl := Option.some.inj h1
              exact ⟨rfl, .pointer (some ⟨β i, off + fd.offset, none⟩), by simp [execOp, Instr.fieldAt, run_underlying hu, hf, hx', Instr.sureAddr, fieldPlace, sizeOf, typeInfo, hi, hz, add_plain'], rfl⟩
          · cases h1
        · cases h1
      · cases h1
    · cases h
  case nilCheck x =>
    split at h
    · rename_i i off e
      obtain rfl := Option.some.inj h
      have hx := ev_rel hS hch x
      rw [e] at hx
      have hx' : a.eval x = .pointer (some ⟨β i, off, none⟩) := hx
      exact ⟨rfl, .pointer (some ⟨β i, off, none⟩), by simp [execOp, hx'], rfl⟩
    · cases h
  case binOp op t x y t' =>
    simp only [Option.map_eq_some_iff] at h
    obtain ⟨b, h1, rfl⟩ := h
    refine ⟨rfl, .bool b, ?_, rfl⟩
    unfold eqSV at h1
    split at h1
    · rename_i xs ys ex ey
      have hx := SV.toVal_rel ex (ev_rel hS hch x)
      have hy := SV.toVal_rel ey (ev_rel hS hch y)
      split at h1
      · cases h1
      · rename_i hg
        have hg' : P.eqGuardType P.depth t = false := by simpa using hg
        split at h1
        · simp only [execOp, hx, hy, Sem.run_bind, run_eqGuard_agg w _ t x y xs ys hg', Result.andThen_ok, run_eql_struct, eqTy_run h1 10000 (by omega)]
          simp
        · simp only [Option.map_eq_some_iff] at h1
          obtain ⟨c, h1, rfl⟩ := h1
          simp only [execOp, hx, hy, Sem.run_bind, run_eqGuard_agg w _ t x y xs ys hg', Result.andThen_ok, run_neq_struct, eqTy_run h1 10000 (by omega)]
          simp
        · cases h1
    · cases h1

theorem loadLoc_ng {P : Program} {t : TypeId} {xs : List FV} {off : Nat} {sv : SV} (h1 : loadLoc P t xs off = some sv) : sv.ng = true := by
  unfold loadLoc at h1
  split at h1
  · split at h1
    · obtain rfl := Option.some.inj h1; rfl
    · cases h1
  · split at h1
    · obtain rfl := Option.some.inj h1; rfl
    · cases h1
  · cases h1
theorem pickSV_ng {st : St} {ch : List (Nat × Bool)} {c x y : Operand} {sv : SV} (h1 : pickSV st ch c x y = some sv) : sv.ng = true := by
  unfold pickSV at h1
  split at h1
  · obtain rfl := Option.some.inj h1; exact ev_ng _ _ _
  · obtain rfl := Option.some.inj h1; exact ev_ng _ _ _
  · split at h1
    · simp only [Option.map_eq_some_iff] at h1
      obtain ⟨_, _, rfl⟩ := h1; rfl
    · split at h1
      · simp only [Option.map_eq_some_iff] at h1
        obtain ⟨_, _, rfl⟩ := h1; rfl
      · cases h1
  · cases h1

theorem localOp_ng {P : Program} {st : St} {ch : List (Nat × Bool)} {esc : Nat → Bool} {o : Oper} {sv : SV} (h : localOp P esc st ch o = some (.val sv)) : sv.ng = true := by
  obtain ⟨dst, op, type, pos, after, guard⟩ := o
  cases op <;> simp only [localOp] at h <;> try (cases h; done)
  case move x =>
    simp only [Option.some.injEq, LRes.val.injEq] at h
    subst h; exact ev_ng _ _ _
  case assign x =>
    simp only [Option.some.injEq, LRes.val.injEq] at h
    subst h; exact ev_ng _ _ _
  case pick c x y =>
    simp only [Option.map_eq_some_iff, LRes.val.injEq] at h
    obtain ⟨sv', h1, rfl⟩ := h
    exact pickSV_ng h1
  case alloc t =>
    split at h
    · cases h
    · simp at h
  case box t x =>
    split at h
    · cases h
    · split at h
      · split at h
        · simp at h
        · cases h
      · cases h
  case load t x =>
    split at h
    · split at h
      · simp only [Option.map_eq_some_iff, LRes.val.injEq] at h
        obtain ⟨sv', h1, rfl⟩ := h
        exact loadLoc_ng h1
      · cases h
    · cases h
  case store t p x =>
    split at h
    · split at h
      · simp at h
      · cases h
    · cases h
  case fieldAddr s x f =>
    split at h
    · simp only [Option.map_eq_some_iff, LRes.val.injEq] at h
      obtain ⟨d, h1, rfl⟩ := h; rfl
    · cases h
  case nilCheck x =>
    split at h
    · simp only [Option.some.injEq, LRes.val.injEq] at h
      subst h; rfl
    · cases h
  case binOp op t x y t' =>
    simp only [Option.map_eq_some_iff, LRes.val.injEq] at h
    obtain ⟨b, h1, rfl⟩ := h; rfl

/-! ### writing a slot -/
def SV.drop (d : Nat) : SV → SV
  | .gd s w x => if s = d then .one .junk else .gd s w x
  | x => x

def St.put (st : St) (dst : Option Nat) (sv : SV) : St :=
  match dst with
  | none => st
  | some d => { st with slots := (st.slots.map (SV.drop d)).set d sv }

theorem drop_rel {β : Nat → Nat} {tm : Array Value} {d : Nat} {u : Value} {sv : SV} {v : Value} (h : sv.rel β tm v) : (sv.drop d).rel β (tm.setIfInBounds d u) v := by
  cases sv with
  | one f => exact h
  | agg xs => exact h
  | gd s w x =>
    simp only [SV.drop]
    split
    · trivial
    · rename_i hne
      have e : (tm.setIfInBounds d u)[s]? = tm[s]? := by simp [Ne.symm hne]
      exact ⟨h.1, fun hs => rel_ng h.1 (h.2.1 (by rwa [e] at hs)), fun hs => h.2.2 (by rwa [e] at hs)⟩

theorem Sim.put {imp : List Nat} {NL : Nat → Prop} {β : Nat → Nat} {st : St} {a : Act} {w : World} (hS : Sim imp NL β st a w) (dst : Option Nat) {sv : SV} {v : Value} (hr : sv.rel β (a.put dst v).tmps v) :
    Sim imp NL β (st.put dst sv) (a.put dst v) w := by
  cases dst with
  | none => exact hS
  | some d =>
    refine ⟨by simp [St.put, Act.put, hS.size], fun t => ?_, hS.defers, hS.loc, hS.inj, hS.nl, hS.impl, hS.impb⟩
    have hsz := hS.size
    simp only [St.put, St.get, Act.put, List.getD_eq_getElem?_getD, List.getElem?_set, List.length_map, Array.getD_eq_getD_getElem?, Array.getElem?_setIfInBounds]
    by_cases e : d = t
    · subst e
      by_cases hd : d < st.slots.length
      · rw [if_pos rfl, if_pos hd, if_pos rfl, if_pos (by omega)]
        exact hr
      · rw [if_pos rfl, if_neg hd]
        trivial
    · rw [if_neg e, if_neg e]
      have := drop_rel (d := d) (u := v) (hS.slot t)
      simp only [St.get, List.getD_eq_getElem?_getD, Array.getD_eq_getD_getElem?] at this
      simp only [List.getElem?_map]
      cases hx : st.slots[t]? with
      | none => trivial
      | some y => rw [hx] at this; exact this

def SV.learn (s : Nat) (b : Bool) : SV → SV
  | .gd s' w x => if s' = s then (if w = b then x else .one .junk) else .gd s' w x
  | x => x

def St.know (st : St) (s : Nat) (b : Bool) : St := { st with slots := (st.slots.map (SV.learn s b)).set s (.one (.kb b)) }

theorem learn_rel {β : Nat → Nat} {tm : Array Value} {s : Nat} {b : Bool} (hs : tm[s]? = some (.bool b)) {sv : SV} {v : Value} (h : sv.rel β tm v) : (sv.learn s b).rel β tm v := by
  cases sv with
  | one f => exact h
  | agg xs => exact h
  | gd s' w x =>
    simp only [SV.learn]
    split
    · rename_i e
      subst e
      split
      · rename_i e; subst e; exact h.2.1 hs
      · trivial
    · exact h

theorem Sim.know {imp : List Nat} {NL : Nat → Prop} {β : Nat → Nat} {st : St} {a : Act} {w : World} (hS : Sim imp NL β st a w) {s : Nat} {b : Bool} (hs : a.tmps[s]? = some (.bool b)) : Sim imp NL β (st.know s b) a w := by
  refine ⟨by simp [St.know, hS.size], fun t => ?_, hS.defers, hS.loc, hS.inj, hS.nl, hS.impl, hS.impb⟩
  have := learn_rel hs (hS.slot t)
  simp only [St.know, St.get, List.getD_eq_getElem?_getD, List.getElem?_set, List.length_map, List.getElem?_map] at this ⊢
  by_cases e : s = t
  · subst e
    by_cases hd : s < st.slots.length
    · rw [if_pos rfl, if_pos hd]; exact getD_of_get hs
    · rw [if_pos rfl, if_neg hd]; trivial
  · rw [if_neg e]
    cases hx : st.slots[t]? with
    | none => trivial
    | some y => rw [hx] at this; exact this

/-! ### one operation -/
/-- A loop's invariant: what is known at its head, of each x: the slots' and the noted blocks' new content, the world that it is told of. -/
structure Inv where
  X : Type
  vars : X → List (Nat × SV)
  lvI : List Nat
  lv : X → List (List FV)
  wr : X → World
  NL : X → Nat → Prop

def Keeps (NL : Nat → Prop) (w w' : World) : Prop := w.heap.size ≤ w'.heap.size ∧ (∀ b, b < w.heap.size → ¬ NL b → w'.heap[b]? = w.heap[b]?) ∧ w'.os = w.os ∧ w'.tape = w.tape ∧ w'.output = w.output

/-! ### what is said of an unknown value: its form -/
inductive Shp where
  | bool | int (k : IntKind) | str | slice | ptr | map | any
/-- A record: the data that some cells hold. -/
structure Rcd where
  X : Type
  l : X → List Value
  n : Nat
  hn : ∀ x, (l x).length = n
inductive VShp where
  | one (s : Shp) | agg (l : List Shp) | own (r : Rcd)
inductive RShp where
  | val (s : VShp) | tup (l : List VShp)

/-- A slice's three words. -/
structure SL where
  a : Option Addr
  n : Nat
  c : Nat
def SL.v (s : SL) : Value := .slice s.a s.n s.c

def exOne : Shp → (Value → Prop) → Prop
  | .bool, K => ∃ b : Bool, K (.bool b)
  | .int k, K => ∃ n : Int, K (.int k n)
  | .str, K => ∃ s : ByteArray, K (.string s)
  | .slice, K => ∃ s : SL, K (.slice s.a s.n s.c)
  | .ptr, K => ∃ a : Addr, K (.pointer (some a))
  | .map, K => ∃ r : Option Nat, K (.map r)
  | .any, K => ∃ v : Value, K v
def exCells : List Shp → List Value → (List Value → Prop) → Prop
  | [], acc, K => K acc.reverse
  | s :: l, acc, K => exOne s fun v => exCells l (v :: acc) K
def exV : VShp → (Value → Prop) → Prop
  | .one s, K => exOne s K
  | .agg l, K => exCells l [] fun vs => K (.agg vs.toArray)
  | .own r, K => ∃ x : r.X, K (.agg (r.l x).toArray)
def exTup : List VShp → List Value → (List Value → Prop) → Prop
  | [], acc, K => K acc.reverse
  | s :: l, acc, K => exV s fun v => exTup l (v :: acc) K
def exR : RShp → (Value → Prop) → Prop
  | .val s, K => exV s K
  | .tup l, K => exTup l [] fun vs => K (.tuple vs.toArray)

def cellShp (P : Program) : Nat → TypeId → List Shp
  | 0, _ => []
  | n + 1, t => match P.underlying t with
    | some .bool => [.bool]
    | some (.int k) => [.int k]
    | some .string => [.str]
    | some (.slice _) => [.slice]
    | some (.pointer _) => [.ptr]
    | some (.map _ _) => [.map]
    | some (.struct fs) => fs.toList.flatMap fun f => cellShp P n f.type
    | some (.array k e) => (List.replicate k (cellShp P n e)).flatten
    | _ => [.any]
def vShp (P : Program) (t : TypeId) : VShp := match P.underlying t with
  | some (.struct _) => .agg (cellShp P 8 t)
  | some (.array _ _) => .agg (cellShp P 8 t)
  | _ => match cellShp P 8 t with
    | [s] => .one s
    | _ => .one .any
def rShp (P : Program) (t : TypeId) : RShp := match P.underlying t with
  | some (.tuple ts) => .tup (ts.toList.map (vShp P))
  | _ => .val (vShp P t)
def vShpR (P : Program) (rcd : TypeId → Option Rcd) (t : TypeId) : VShp := match rcd t with
  | some r => .own r
  | none => vShp P t
def rShpR (P : Program) (rcd : TypeId → Option Rcd) (t : TypeId) : RShp := match P.underlying t with
  | some (.tuple ts) => .tup (ts.toList.map (vShpR P rcd))
  | _ => .val (vShpR P rcd t)

structure Cfg where
  esc : Nat → Bool
  det : Nat → Bool
  inv : Nat → Inv
  shp : Nat → Option RShp := fun _ => none
  /-- Regions (by number) that draw their order and hold more than quiet operations. -/
  drw : Nat → Bool := fun _ => false
  /-- Types whose values are told as records. -/
  rcd : TypeId → Option Rcd := fun _ => none

/-- The form of an operation's result. -/
def oShp (P : Program) (cfg : Cfg) (o : Oper) : RShp :=
  match o.dst.bind cfg.shp with
  | some s => s
  | none => match o.op with
    | .indexAddr _ _ _ => .val (.one .ptr)
    | .next _ _ => .tup [.one .bool]
    | .range _ _ => .val (.one .any)
    | .entry _ => .val (.one .any)
    | _ => rShpR P cfg.rcd o.type

theorem exOne_ex : ∀ {s : Shp} {K : Value → Prop}, exOne s K → ∃ v, K v
  | .bool, _, ⟨_, h⟩ => ⟨_, h⟩
  | .int _, _, ⟨_, h⟩ => ⟨_, h⟩
  | .str, _, ⟨_, h⟩ => ⟨_, h⟩
  | .slice, _, ⟨_, h⟩ => ⟨_, h⟩
  | .ptr, _, ⟨_, h⟩ => ⟨_, h⟩
  | .map, _, ⟨_, h⟩ => ⟨_, h⟩
  | .any, _, ⟨_, h⟩ => ⟨_, h⟩
theorem exCells_ex : ∀ {l : List Shp} {acc : List Value} {K : List Value → Prop}, exCells l acc K → ∃ vs, K vs
  | [], _, _, h => ⟨_, h⟩
  | _ :: _, _, _, h => let ⟨_, h'⟩ := exOne_ex h; exCells_ex h'
theorem exV_ex {s : VShp} {K : Value → Prop} (h : exV s K) : ∃ v, K v := by
  cases s with
  | one s => exact exOne_ex h
  | agg l => obtain ⟨vs, h⟩ := exCells_ex h; exact ⟨_, h⟩
  | own r => obtain ⟨x, h⟩ := h; exact ⟨_, h⟩
theorem exTup_ex : ∀ {l : List VShp} {acc : List Value} {K : List Value → Prop}, exTup l acc K → ∃ vs, K vs
  | [], _, _, h => ⟨_, h⟩
  | _ :: _, _, _, h => let ⟨_, h'⟩ := exV_ex h; exTup_ex h'
theorem exR_ex {s : RShp} {K : Value → Prop} (h : exR s K) : ∃ v, K v := by
  cases s with
  | val s => exact exV_ex h
  | tup l => obtain ⟨vs, h⟩ := exTup_ex h; exact ⟨_, h⟩

structure CallsE (P : Program) (f : FuncId) (args : Array Value) (w : World) (R : Ending → World → Prop) : Prop where
  out : Calls P f args w R

structure KeepsE (NL : Nat → Prop) (w w' : World) : Prop where
  out : Keeps NL w w'

/-- An operation that leaves every world alone. -/
structure PureRuns (P : Program) (s : Sem Value) (v : Value) : Prop where
  out : ∀ w, s.run P w = .ok v w

structure RunsTo (P : Program) (s : Sem Value) (w : World) (v : Value) (w' : World) : Prop where
  out : s.run P w = .ok v w'

/-- The cells from an address on. -/
structure CellsAt (w : World) (a : Addr) (vs : List Value) : Prop where
  out : ∀ (j : Nat) (v : Value), vs[j]? = some v → w.cell? (a.add j) = some v

def callVC (P : Program) (shp : RShp) (f : FuncId) (args : Array Value) (wr : World) (NL : Nat → Prop) (k : SV → World → (Nat → Prop) → Prop) : Prop :=
  ∀ w1, Now NL wr w1 → ∃ R, CallsE P f args w1 R ∧ ∀ e w2, R e w2 → exR shp fun v => e = .returned v ∧ KeepsE NL w1 w2 ∧ k (ofVal v) w2 (addNL NL w1.heap.size w2.heap.size)

def detVC (P : Program) (shp : RShp) (G : Prop) (f : FuncId) (args : Array Value) (wr : World) (NL : Nat → Prop) (k : SV → Prop) : Prop :=
  exR shp fun v => (G → ∀ w1, Now NL wr w1 → CallsE P f args w1 fun e w2 => e = .returned v ∧ Below w1.heap.size w1 w2) ∧ k (ofVal v)

def pureRun (P : Program) {α : Type} : Sem α → Option α
  | .pure x => some x
  | .program f => pureRun P (f P)
  | _ => none

theorem pureRun_run {P : Program} {α : Type} {x : α} : ∀ {s : Sem α} {w : World}, pureRun P s = some x → s.run P w = .ok x w
  | .pure y, w, h => by simp only [pureRun, Option.some.injEq] at h; subst h; rfl
  | .program f, w, h => by simp only [pureRun] at h; exact pureRun_run (s := f P) h
  | .load .., _, h => by simp [pureRun] at h
  | .store .., _, h => by simp [pureRun] at h
  | .new .., _, h => by simp [pureRun] at h
  | .shape .., _, h => by simp [pureRun] at h
  | .freeze .., _, h => by simp [pureRun] at h
  | .frozen .., _, h => by simp [pureRun] at h
  | .getObj .., _, h => by simp [pureRun] at h
  | .setObj .., _, h => by simp [pureRun] at h
  | .choose .., _, h => by simp [pureRun] at h
  | .sys .., _, h => by simp [pureRun] at h
  | .mark .., _, h => by simp [pureRun] at h
  | .halt .., _, h => by simp [pureRun] at h

/-- The operands' values, where they are values. -/
def rho (st : St) (ch : List (Nat × Bool)) : Operand → Value := fun x => ((ev st ch x).toVal).getD undef
def plainOp (st : St) (ch : List (Nat × Bool)) (o : Oper) : Bool := o.op.operands.all fun x => ((ev st ch x).toVal).isSome

def notSelect : Op → Bool
  | .select _ _ => false
  | _ => true

theorem execOp_rho {imp : List Nat} {NL : Nat → Prop} {β : Nat → Nat} {st : St} {a : Act} {w : World} (hS : Sim imp NL β st a w) {ch : List (Nat × Bool)} (hch : chOK ch a.tmps) {o : Oper} (hp : plainOp st ch o = true) (hns : notSelect o.op = true) :
    execOp a.eval o = execOp (rho st ch) o := by
  refine execOp_congr o (fun cs b e => by rw [e] at hns; simp [notSelect] at hns) fun x hx => ?_
  have h1 := (Array.all_eq_true_iff_forall_mem.1 hp) x hx
  have hr := ev_rel hS hch x
  obtain ⟨v, hv⟩ := Option.isSome_iff_exists.1 h1
  rw [SV.toVal_rel hv hr]
  simp [rho, hv]

def FV.wfB (n : Nat) : FV → Bool
  | .loc i _ => i < n
  | _ => true
def SV.wfB (n : Nat) : SV → Bool
  | .one f => f.wfB n
  | .agg xs => xs.all (FV.wfB n)
  | .gd _ _ x => x.wfB n
def St.wfB (st : St) : Bool := st.slots.all (SV.wfB st.locs.length) && st.locs.all fun l => l.2.all (FV.wfB st.locs.length)

def soil (i : Nat) : List (List Nat) → List (List Nat)
  | [] => []
  | d :: r => (i :: d) :: r

def applyL (st : St) (dst : Option Nat) (gd : Option (Nat × Bool)) : LRes → Option St
  | .val sv => match gd with
    | none => some (st.put dst sv)
    | some g => some (st.put dst (.gd g.1 g.2 sv))
  | .new T xs => match gd with
    | none => if (st.wfB && xs.all (FV.wfB st.locs.length)) = true then some { (st.put dst (.one (.loc st.locs.length 0))) with locs := st.locs ++ [(T, xs)] } else none
    | some _ => none
  | .upd i T xs => match gd with
    | none => some { (st.put dst (.one .junk)) with locs := st.locs.set i (T, xs), dirt := soil i st.dirt }
    | some _ => none

def guardSlot (ops : Array Oper) (o : Oper) : Option (Option (Nat × Bool)) :=
  match o.guard with
  | none => some none
  | some (j, want) => match (ops[j]?).bind (·.dst) with
    | some s => some (some (s, want))
    | none => none

def selfGuard (dst : Option Nat) : Option (Nat × Bool) → Bool
  | some (s, _) => dst == some s
  | none => false

/-- Operations on values alone that may panic, or hang on a size. -/
def quietSem (ρ : Operand → Value) (o : Oper) : Option (Sem Value) :=
  match o.op with
  | .indexAddr t x i => some (Instr.indexAt t (ρ x) (ρ i))
  | .index t x i => some (Instr.index t (ρ x) (ρ i))
  | .slice t x lo hi mx => some (Instr.sliceAt t (ρ x) (lo.map ρ) (hi.map ρ) (mx.map ρ))
  | .binOp .quo t x y _ => some (binOp .quo t (ρ x) (ρ y))
  | .binOp .rem t x y _ => some (binOp .rem t (ρ x) (ρ y))
  | .binOp .shl t x y _ => some (binOp .shl t (ρ x) (ρ y))
  | .binOp .shr t x y _ => some (binOp .shr t (ρ x) (ρ y))
  | _ => none

/-- Operations that read or make memory by a size that is not known. -/
def effSem (ρ : Operand → Value) (o : Oper) : Option (Sem Value) :=
  match o.op with
  | .call { callee := .builtin .append, args, argTypes } => some (Builtin.append_ argTypes o.type (args.map ρ))
  | .call { callee := .builtin .copy, args, argTypes } => some (Builtin.copy_ argTypes o.type (args.map ρ))
  | .call { callee := .builtin .delete, args, argTypes } => some (Builtin.delete_ argTypes o.type (args.map ρ))
  | .call { callee := .builtin .clear, args, argTypes } => some (Builtin.clear_ argTypes o.type (args.map ρ))
  | .makeSlice t l c => some (Instr.makeSlice t (ρ l) (ρ c))
  | .buildSlice t len parts => some (Instr.buildSlice t len (parts.map fun (i, x) => (i, ρ x)))
  | .lookup t m x ok => some (Instr.lookup t (ρ m) (ρ x) ok)
  | .makeMap t r => some (Instr.makeMap t (r.map ρ))
  | .range t x => some (Instr.range t (ρ x))
  | .next it s => some (Instr.next (ρ it) s o.type)
  | .entry it => some (Instr.entry (ρ it))
  | _ => none

def loadAddr (P : Program) (st : St) (ch : List (Nat × Bool)) (o : Oper) : Option (Addr × TypeId) :=
  match o.op with
  | .load t x => match ev st ch x with
    | .one (.val (.pointer (some a))) => match isRow P t, P.info? t with
      | some true, some i => if (cellShp P 8 t).length = i.size then some (a, t) else none
      | some false, some _ => some (a, t)
      | _, _ => none
    | _ => none
  | _ => none

def rcdOK (P : Program) (t : TypeId) (n : Nat) : Bool := match isRow P t with
  | some true => n == (cellShp P 8 t).length
  | _ => false

def loadVC (P : Program) (rcd : TypeId → Option Rcd) (G : Prop) (a : Addr) (t : TypeId) (wr : World) (NL : Nat → Prop) (k : SV → Prop) : Prop :=
  match rcd t with
  | some r => if rcdOK P t r.n = true then ∃ x : r.X, (G → CellsAt wr a (r.l x) ∧ NL a.block) ∧ k (.agg ((r.l x).map .val)) else False
  | none => match vShp P t with
    | .one s => exOne s fun v => (G → CellsAt wr a [v] ∧ NL a.block) ∧ k (ofVal v)
    | .agg l => exCells l [] fun vs => (G → vs.length = l.length ∧ CellsAt wr a vs ∧ NL a.block) ∧ k (.agg (vs.map .val))
    | .own _ => False

/-- A quiet operation: of the world it reads alone. -/
def quietVC (P : Program) (cfg : Cfg) (o : Oper) (G : Prop) (st : St) (ch : List (Nat × Bool)) (wr : World) (NL : Nat → Prop) (k : SV → Prop) : Option Prop :=
  match loadAddr P st ch o with
  | some (a, t) => some (loadVC P cfg.rcd G a t wr NL k)
  | none =>
    if (plainOp st ch o && notSelect o.op) = true then
      match quietSem (rho st ch) o with
      | some s => some (exR (oShp P cfg o) fun v => (G → PureRuns P s v) ∧ k (ofVal v))
      | none => match effSem (rho st ch) o with
        | some _ => none
        | none => match pureRun P (execOp (rho st ch) o) with
          | some (.value v) => some (k (ofVal v))
          | some (.enter f args) => if cfg.det f then some (detVC P (oShp P cfg o) G f args wr NL k) else none
          | _ => none
    else none

/-- A store through a pointer that is no tracked one. -/
def storeA (st : St) (ch : List (Nat × Bool)) (o : Oper) : Option (TypeId × Addr × Value) :=
  match o.op with
  | .store t p x => match ev st ch p, (ev st ch x).toVal with
    | .one (.val (.pointer (some a))), some v => some (t, a, v)
    | _, _ => none
  | _ => none

/-- What a store comes to. -/
structure StoresTo (P : Program) (t : TypeId) (a : Addr) (v : Value) (NL : Nat → Prop) (wr wr' : World) : Prop where
  out : ∀ w, Now NL wr w → ∃ w', (storeVar t a v).run P w = .ok () w' ∧ Now NL wr' w' ∧ Frm NL w w' NL

def opVC (P : Program) (cfg : Cfg) (ops : Array Oper) (o : Oper) (st : St) (wr : World) (NL : Nat → Prop) (k : St → World → (Nat → Prop) → Prop) : Prop :=
  match guardSlot ops o with
  | none => False
  | some g =>
    if selfGuard o.dst g = true then False else
    let ch := match g with | none => [] | some g => chain st 4 g
    match localOp P cfg.esc st ch o with
    | some r => match applyL st o.dst g r with
      | some st' => k st' wr NL
      | none => False
    | none =>
      match g with
      | none => match quietVC P cfg o True st ch wr NL (fun sv => k (st.put o.dst sv) wr NL) with
        | some p => p
        | none => match storeA st ch o with
        | some (t, a, v) => ∃ wr', StoresTo P t a v NL wr wr' ∧ k (st.put o.dst (.one .junk)) wr' NL
        | none =>
          if (plainOp st ch o && notSelect o.op) = true then
            match effSem (rho st ch) o with
            | some s => ∀ w1, Now NL wr w1 → exR (oShp P cfg o) fun v => ∃ w2, RunsTo P s w1 v w2 ∧ KeepsE NL w1 w2 ∧ k (st.put o.dst (ofVal v)) w2 (addNL NL w1.heap.size w2.heap.size)
            | none => semVC P (execOp (rho st ch) o) wr NL fun nx wr' NL' =>
              match nx with
              | .value v => k (st.put o.dst (ofVal v)) wr' NL'
              | .skip => k (st.put o.dst (.one .junk)) wr' NL'
              | .enter f args => callVC P (oShp P cfg o) f args wr' NL' (fun sv => k (st.put o.dst sv))
              | _ => False
          else False
      | some g => match quietVC P cfg o (gcond st 5 g) st ch wr NL (fun sv => k (st.put o.dst (.gd g.1 g.2 sv)) wr NL) with
        | some p => p
        | none =>
          if (plainOp st ch o && notSelect o.op) = true then
            match pureRun P (execOp (rho st ch) o) with
            | some (.enter f args) =>
              (gcond st 5 g → callVC P (oShp P cfg o) f args wr NL (fun sv => k ((st.know g.1 g.2).put o.dst sv))) ∧
              (match st.get g.1 with | .one (.val (.bool b)) => (b = !g.2 → k ((st.know g.1 (!g.2)).put o.dst (.one .junk)) wr NL) | _ => False)
            | _ => False
          else False

theorem semNow {imp : List Nat} {NL NL' : Nat → Prop} {w w' : World} {β : Nat → Nat} {st : St} {a : Act} (hS : Sim imp NL β st a w) (hf : Frm NL w w' NL') : Sim imp NL' β st a w' := by
  have hlt : ∀ i, i < st.locs.length → β i < w.heap.size := fun i hi => by
    obtain ⟨cs, hb, _⟩ := hS.loc i _ _ (List.getElem?_eq_getElem hi)
    exact (Array.getElem?_eq_some_iff.1 hb).1
  refine ⟨hS.size, hS.slot, hS.defers, fun i T xs h => ?_, hS.inj, fun i hi hn => ?_, hS.impl, hS.impb⟩
  · have hi : i < st.locs.length := (List.getElem?_eq_some_iff.1 h).1
    obtain ⟨cs, hb, hr⟩ := hS.loc i T xs h
    exact ⟨cs, by rw [hf.block _ (hlt i hi) (hS.nl i hi)]; exact hb, hr⟩
  · rcases hf.nl _ hn with h | h
    · exact hS.nl i hi h
    · have := hlt i hi; omega

theorem FV.wf_rel {β β' : Nat → Nat} {n : Nat} (hb : ∀ i, i < n → β' i = β i) {f : FV} {v : Value} (hw : f.wfB n = true) (h : f.rel β v) : f.rel β' v := by
  cases f with
  | loc i o => simp only [FV.wfB, decide_eq_true_eq] at hw; simp only [FV.rel, hb i hw] at h ⊢; exact h
  | _ => exact h
theorem all2_wf {β β' : Nat → Nat} {n : Nat} (hb : ∀ i, i < n → β' i = β i) : ∀ {xs : List FV} {cs : List Value}, xs.all (FV.wfB n) = true → All2 (FV.rel β) xs cs → All2 (FV.rel β') xs cs
  | _, _, _, .nil => .nil
  | _, _, hw, .cons h1 h2 => by
    simp only [List.all_cons, Bool.and_eq_true] at hw
    exact .cons (FV.wf_rel hb hw.1 h1) (all2_wf hb hw.2 h2)
theorem SV.wf_rel {β β' : Nat → Nat} {n : Nat} (hb : ∀ i, i < n → β' i = β i) {tm : Array Value} : ∀ {sv : SV} {v : Value}, sv.wfB n = true → sv.rel β tm v → sv.rel β' tm v
  | .one _, _, hw, h => FV.wf_rel hb hw h
  | .agg _, _, hw, ⟨cs, e, ha⟩ => ⟨cs, e, all2_wf hb hw ha⟩
  | .gd _ _ _, _, hw, h => ⟨h.1, fun hs => SV.wf_rel hb hw (h.2.1 hs), h.2.2⟩

theorem Sim.loc_lt {imp : List Nat} {NL : Nat → Prop} {β : Nat → Nat} {st : St} {a : Act} {w : World} (hS : Sim imp NL β st a w) {i : Nat} (hi : i < st.locs.length) : β i < w.heap.size := by
  obtain ⟨cs, hb, _⟩ := hS.loc i _ _ (List.getElem?_eq_getElem hi)
  exact (Array.getElem?_eq_some_iff.1 hb).1

theorem get_mem_or (st : St) (t : Nat) : st.get t = .one .junk ∨ st.get t ∈ st.slots := by
  simp only [St.get, List.getD_eq_getElem?_getD]
  cases h : st.slots[t]? with
  | none => exact .inl rfl
  | some x => exact .inr (List.mem_of_getElem? h)

theorem Sim.new {imp : List Nat} {NL : Nat → Prop} {β : Nat → Nat} {st : St} {a : Act} {w : World} (hS : Sim imp NL β st a w) (hlt : ∀ b, NL b → b < w.heap.size) (dst : Option Nat) {T : TypeId} {xs : List FV} {cs : List Value} (hr : All2 (FV.rel β) xs cs) (h1 : ∀ c ∈ cs, c.oneCell' = true)
    (hw : st.wfB = true) (hx : xs.all (FV.wfB st.locs.length) = true) :
    ∃ β', (∀ i, i < st.locs.length → β' i = β i) ∧ Sim imp NL β' { (st.put dst (.one (.loc st.locs.length 0))) with locs := st.locs ++ [(T, xs)] } (a.put dst (.pointer (some ⟨w.heap.size, 0, none⟩))) (w.alloc (.cells cs.toArray T)) := by
  let n := st.locs.length
  let β' : Nat → Nat := fun i => if i = n then w.heap.size else β i
  have hb : ∀ i, i < n → β' i = β i := fun i hi => by simp [β']; omega
  simp only [St.wfB, Bool.and_eq_true, List.all_eq_true] at hw
  have hS' : Sim imp NL β' st a w := ⟨hS.size, fun t => by
    rcases get_mem_or st t with e | e
    · rw [e]; trivial
    · exact SV.wf_rel hb (hw.1 _ e) (hS.slot t), hS.defers, fun i T xs h => by
      have hi : i < n := (List.getElem?_eq_some_iff.1 h).1
      obtain ⟨cs, h1, h2, h3⟩ := hS.loc i T xs h
      refine ⟨cs, by rw [hb i hi]; exact h1, all2_wf hb ?_ h2, h3⟩
      have := hw.2 _ (List.mem_of_getElem? h)
      simpa using this, fun i j hi hj e => hS.inj i j hi hj (by rw [hb i hi, hb j hj] at e; exact e), fun i hi => by rw [hb i hi]; exact hS.nl i hi, hS.impl, fun i b hi => by
      rw [hb i (by have := (List.getElem?_eq_some_iff.1 hi).1; have := hS.impl; show i < st.locs.length; omega)]
      exact hS.impb i b hi⟩
  have hput := hS'.put dst (sv := .one (.loc n 0)) (v := .pointer (some ⟨w.heap.size, 0, none⟩)) (by simp [SV.rel, FV.rel, β'])
  have hsz : (w.alloc (.cells cs.toArray T)).heap.size = w.heap.size + 1 := by simp
  have hnew : (w.alloc (.cells cs.toArray T)).heap[w.heap.size]? = some (.cells cs.toArray T (0, 0)) := by
    show (w.heap.push _)[w.heap.size]? = _
    simp
  refine ⟨β', hb, hput.size, hput.slot, hput.defers, fun i T' xs' h => ?_, fun i j hi hj e => ?_, fun i hi hN => ?_, by have := hS.impl; simp; omega, hput.impb⟩
  · simp only [List.getElem?_append] at h
    split at h
    · rename_i hi
      obtain ⟨ds, h1, h2, h3⟩ := hS'.loc i T' xs' h
      refine ⟨ds, ?_, h2, h3⟩
      rw [alloc_lt w _ _ (hS'.loc_lt hi)]
      exact h1
    · rename_i hi
      have e : i = n := by
        have := (List.getElem?_eq_some_iff.1 h).1
        simp at this
        show i = st.locs.length
        omega
      subst e
      simp [n] at h
      obtain ⟨rfl, rfl⟩ := h
      exact ⟨cs, by simp only [β', if_true]; exact hnew, all2_wf hb hx hr, h1⟩
  · simp only [List.length_append, List.length_cons, List.length_nil] at hi hj
    by_cases ei : i = n <;> by_cases ej : j = n
    · rw [ei, ej]
    · have hj' : j < st.locs.length := by show j < n; omega
      have := hS'.loc_lt hj'
      rw [ei] at e
      simp only [β', if_true] at e this
      omega
    · have hi' : i < st.locs.length := by show i < n; omega
      have := hS'.loc_lt hi'
      rw [ej] at e
      simp only [β', if_true] at e this
      omega
    · exact hS'.inj i j (by show i < n; omega) (by show j < n; omega) e
  · simp only [List.length_append, List.length_cons, List.length_nil] at hi
    by_cases ei : i = n
    · rw [ei] at hN
      simp only [β', if_true] at hN
      exact Nat.lt_irrefl _ (hlt _ hN)
    · exact hS'.nl i (by show i < n; omega) hN

theorem Sim.upd {imp : List Nat} {NL : Nat → Prop} {β : Nat → Nat} {st : St} {a : Act} {w : World} (hS : Sim imp NL β st a w) (dst : Option Nat) {i : Nat} {T : TypeId} {old xs : List FV} {cs : List Value} (hi : st.locs[i]? = some (T, old))
    (hr : All2 (FV.rel β) xs cs) (h1 : ∀ c ∈ cs, c.oneCell' = true) :
    Sim imp NL β { (st.put dst (.one .junk)) with locs := st.locs.set i (T, xs), dirt := soil i st.dirt } (a.put dst undef) (w.setRow (β i) cs.toArray) := by
  have hput := hS.put dst (sv := .one .junk) (v := undef) trivial
  have hil : i < st.locs.length := (List.getElem?_eq_some_iff.1 hi).1
  obtain ⟨os, hb, _⟩ := hS.loc i T old hi
  refine ⟨hput.size, hput.slot, hput.defers, fun j T' xs' h => ?_, fun j k hj hk e => hS.inj j k (by simpa using hj) (by simpa using hk) e, fun j hj => hS.nl j (by simpa using hj), by simpa using hS.impl, hS.impb⟩
  simp only [List.getElem?_set] at h
  by_cases e : i = j
  · subst e
    rw [if_pos rfl, if_pos hil] at h
    simp only [Option.some.injEq, Prod.mk.injEq] at h
    obtain ⟨rfl, rfl⟩ := h
    exact ⟨cs, setRow_heap w _ _ _ _ _ hb, hr, h1⟩
  · rw [if_neg e] at h
    have hj : j < st.locs.length := (List.getElem?_eq_some_iff.1 h).1
    obtain ⟨ds, h2, h3⟩ := hS.loc j T' xs' h
    exact ⟨ds, by rw [setRow_other _ _ _ _ (fun e' => e (hS.inj i j hil hj e'.symm))]; exact h2, h3⟩

theorem Now.setRow {NL : Nat → Prop} {wr w : World} (h : Now NL wr w) {g : Nat} (hg : ¬ NL g) (cs : Array Value) : Now NL wr (w.setRow g cs) :=
  ⟨h.os, h.tape, h.output, by simpa using h.size, h.lt, fun b hb => by rw [setRow_other w g b cs (fun e => hg (e ▸ hb))]; exact h.block b hb⟩
theorem Now.alloc {NL : Nat → Prop} {wr w : World} (h : Now NL wr w) (o : Obj) : Now NL wr (w.alloc o) :=
  ⟨h.os, h.tape, h.output, by have := h.size; simp; omega, h.lt, fun b hb => by rw [alloc_lt w o b (Nat.lt_of_lt_of_le (h.lt b hb) h.size)]; exact h.block b hb⟩
theorem Now.below {NL : Nat → Prop} {wr w w' : World} (h : Now NL wr w) (hb : Below w.heap.size w w') : Now NL wr w' :=
  ⟨hb.os.trans h.os, hb.tape.trans h.tape, hb.output.trans h.output, Nat.le_trans h.size hb.size, h.lt, fun b hN => (hb.block b (Nat.lt_of_lt_of_le (h.lt b hN) h.size)).trans (h.block b hN)⟩
theorem Frm.below {NL : Nat → Prop} {w w' : World} (hb : Below w.heap.size w w') : Frm NL w w' NL :=
  ⟨hb.size, fun b h _ => hb.block b h, fun _ h => .inl h, fun _ h => h, hb.os, hb.tape, hb.output⟩


/-! ### what stays -/
def top : List (List Nat) → List Nat
  | [] => []
  | d :: _ => d

/-- Beside the slots ws nothing of st turned in st'; of tracked blocks those alone that are noted. -/
structure Fr (ws : List Nat) (st st' : St) : Prop where
  slot : ∀ t, t ∉ ws → (st.get t).ng = true → st'.get t = st.get t
  len : st.locs.length ≤ st'.locs.length
  size : st'.slots.length = st.slots.length
  tail : st'.dirt.tail = st.dirt.tail
  none : st'.dirt = [] ↔ st.dirt = []
  up : ∀ i, i ∈ top st.dirt → i ∈ top st'.dirt
  loc : st.dirt ≠ [] → ∀ i, i < st.locs.length → i ∉ top st'.dirt → st'.locs[i]? = st.locs[i]?

theorem Fr.refl (ws : List Nat) (st : St) : Fr ws st st := ⟨fun _ _ _ => rfl, Nat.le_refl _, rfl, rfl, Iff.rfl, fun _ h => h, fun _ _ _ _ => rfl⟩
theorem Fr.mono {ws ws' : List Nat} {st st' : St} (h : Fr ws st st') (hw : ∀ t, t ∈ ws → t ∈ ws') : Fr ws' st st' :=
  ⟨fun t ht => h.slot t (fun h' => ht (hw t h')), h.len, h.size, h.tail, h.none, h.up, h.loc⟩
theorem Fr.trans {ws : List Nat} {a b c : St} (h : Fr ws a b) (k : Fr ws b c) : Fr ws a c :=
  ⟨fun t ht hn => by
    have e := h.slot t ht hn
    rw [k.slot t ht (by rw [e]; exact hn), e], Nat.le_trans h.len k.len, k.size.trans h.size, k.tail.trans h.tail, k.none.trans h.none, fun i hi => k.up i (h.up i hi),
   fun hd i hi hn => by rw [k.loc (fun e => hd (h.none.1 e)) i (Nat.lt_of_lt_of_le hi h.len) hn, h.loc hd i hi (fun hm => hn (k.up i hm))]⟩

theorem drop_ng {d : Nat} {sv : SV} (h : sv.ng = true) : sv.drop d = sv := by cases sv <;> first | rfl | (simp [SV.ng] at h)
theorem learn_ng {s : Nat} {b : Bool} {sv : SV} (h : sv.ng = true) : sv.learn s b = sv := by cases sv <;> first | rfl | (simp [SV.ng] at h)

theorem put_get {st : St} {dst : Option Nat} {sv : SV} {t : Nat} (ht : t ∉ dst.toList) (hn : (st.get t).ng = true) : (st.put dst sv).get t = st.get t := by
  cases dst with
  | none => rfl
  | some d =>
    have hne : d ≠ t := fun e => ht (by simp [e])
    simp only [St.get, St.put, List.getD_eq_getElem?_getD, List.getElem?_set, List.length_map, List.getElem?_map] at hn ⊢
    rw [if_neg hne]
    cases hx : st.slots[t]? with
    | none => rfl
    | some x => rw [hx] at hn; simp only [Option.map_some, Option.getD_some] at hn ⊢; exact drop_ng hn

theorem Fr.put {st : St} {dst : Option Nat} {sv : SV} {ws : List Nat} (hw : ∀ t, t ∈ dst.toList → t ∈ ws) : Fr ws st (st.put dst sv) := by
  have e : (st.put dst sv).dirt = st.dirt := by cases dst <;> rfl
  have e' : (st.put dst sv).locs = st.locs := by cases dst <;> rfl
  exact ⟨fun t ht hn => put_get (fun h => ht (hw t h)) hn, by rw [e']; exact Nat.le_refl _, by cases dst <;> simp [St.put], by rw [e], by rw [e], fun i h => by rw [e]; exact h, fun _ i _ _ => by rw [e']⟩

theorem Fr.know {st : St} {s : Nat} {b : Bool} {ws : List Nat} (hw : s ∈ ws) : Fr ws st (st.know s b) := by
  refine ⟨fun t ht hn => ?_, Nat.le_refl _, by simp [St.know], rfl, Iff.rfl, fun _ h => h, fun _ _ _ _ => rfl⟩
  have hne : s ≠ t := fun e => ht (e ▸ hw)
  simp only [St.get, St.know, List.getD_eq_getElem?_getD, List.getElem?_set, List.length_map, List.getElem?_map] at hn ⊢
  rw [if_neg hne]
  cases hx : st.slots[t]? with
  | none => rfl
  | some x => rw [hx] at hn; simp only [Option.map_some, Option.getD_some] at hn ⊢; exact learn_ng hn

theorem Fr.applyL {st st' : St} {dst : Option Nat} {g : Option (Nat × Bool)} {r : LRes} {ws : List Nat} (hw : ∀ t, t ∈ dst.toList → t ∈ ws) (h : applyL st dst g r = some st') : Fr ws st st' := by
  have e : ∀ sv, (st.put dst sv).dirt = st.dirt := fun sv => by cases dst <;> rfl
  have e' : ∀ sv, (st.put dst sv).locs = st.locs := fun sv => by cases dst <;> rfl
  cases r with
  | val sv =>
    cases g with
    | none => simp only [Eng.applyL, Option.some.injEq] at h; subst h; exact Fr.put hw
    | some g => simp only [Eng.applyL, Option.some.injEq] at h; subst h; exact Fr.put hw
  | new T xs =>
    cases g with
    | none =>
      simp only [Eng.applyL] at h
      split at h
      · simp only [Option.some.injEq] at h
        subst h
        have hp := Fr.put (st := st) (sv := .one (.loc st.locs.length 0)) hw
        exact ⟨hp.slot, by simp, hp.size, by rw [e], by rw [e], fun i hi => by rw [e]; exact hi, fun _ i hi _ => by simp only [List.getElem?_append, hi, if_true]⟩
      · cases h
    | some g => simp [Eng.applyL] at h
  | upd i T xs =>
    cases g with
    | none =>
      simp only [Eng.applyL, Option.some.injEq] at h
      subst h
      have hp := Fr.put (st := st) (sv := .one .junk) hw
      refine ⟨hp.slot, by simp, hp.size, ?_, ?_, ?_, ?_⟩
      · cases st.dirt <;> rfl
      · cases hd : st.dirt <;> simp [soil]
      · intro j hj
        cases hd : st.dirt with
        | nil => rw [hd] at hj; simp [top] at hj
        | cons d r => rw [hd] at hj; simp only [soil, top] at hj ⊢; exact List.mem_cons_of_mem _ hj
      · intro hd j hj hn
        cases hd' : st.dirt with
        | nil => exact absurd hd' hd
        | cons d r =>
          rw [hd'] at hn
          simp only [soil, top, List.mem_cons, not_or] at hn
          exact List.getElem?_set_ne (fun e => hn.1 e.symm)
    | some g => simp [Eng.applyL] at h

end Go.Eng
