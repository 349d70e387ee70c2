/-
  A symbolic executor with a proof (own work): base: symbolic values, worlds seen from a reference world, the model's Sem trees read off into verification conditions.
-/
import Derived.Orders
import Derived.Below
import Derived.WalkKit
import Derived.Laws.CopyRow
namespace Go.Eng
open Go

/-- A symbolic cell: a value; a pointer into a tracked block (its number in the list, the cell); unknown. -/
inductive FV where
  | val (v : Value)
  | loc (i o : Nat)
  | kb (b : Bool)
  | junk

inductive SV where
  | one (f : FV)
  | agg (xs : List FV)
  | gd (s : Nat) (want : Bool) (x : SV)

inductive All2 {α γ : Type} (R : α → γ → Prop) : List α → List γ → Prop where
  | nil : All2 R [] []
  | cons {a b l m} : R a b → All2 R l m → All2 R (a :: l) (b :: m)

def FV.rel (β : Nat → Nat) : FV → Value → Prop
  | .val v, x => x = v
  | .loc i o, x => x = .pointer (some ⟨β i, o, none⟩)
  | .kb b, x => x = .bool b
  | .junk, _ => True

def SV.ng : SV → Bool
  | .gd _ _ _ => false
  | _ => true

def SV.rel (β : Nat → Nat) (tm : Array Value) : SV → Value → Prop
  | .one f, x => f.rel β x
  | .agg xs, x => ∃ cs : List Value, x = .agg cs.toArray ∧ All2 (FV.rel β) xs cs
  | .gd s want y, x => y.ng = true ∧ (tm[s]? = some (.bool want) → y.rel β tm x) ∧ (tm[s]? ≠ some (.bool want) → x = undef)

def ofVal : Value → SV
  | .agg cs => .agg (cs.toList.map .val)
  | v => .one (.val v)

def FV.toVal : FV → Option Value
  | .val v => some v
  | .kb b => some (.bool b)
  | _ => none

def toVals : List FV → Option (List Value)
  | [] => some []
  | f :: l => match f.toVal, toVals l with
    | some v, some vs => some (v :: vs)
    | _, _ => none

def SV.toVal : SV → Option Value
  | .one f => f.toVal
  | .agg xs => (toVals xs).map fun vs => .agg vs.toArray
  | .gd _ _ _ => none

theorem FV.toVal_rel {β : Nat → Nat} {f : FV} {v x : Value} (h : f.toVal = some v) (hr : f.rel β x) : x = v := by
  cases f <;> simp_all [FV.toVal, FV.rel]

theorem toVals_rel {β : Nat → Nat} : ∀ {xs : List FV} {vs cs : List Value}, toVals xs = some vs → All2 (FV.rel β) xs cs → cs = vs
  | [], _, _, h, hr => by cases hr; simpa [toVals] using h
  | f :: l, vs, cs, h, hr => by
    cases hr with
    | cons h1 h2 =>
      simp only [toVals] at h
      split at h
      · rename_i v vs' e1 e2
        obtain rfl := Option.some.inj h
        rw [FV.toVal_rel e1 h1, toVals_rel e2 h2]
      · cases h

theorem SV.toVal_rel {β : Nat → Nat} {tm : Array Value} {s : SV} {v x : Value} (h : s.toVal = some v) (hr : s.rel β tm x) : x = v := by
  cases s with
  | one f => exact FV.toVal_rel h hr
  | agg xs =>
    obtain ⟨cs, rfl, ha⟩ := hr
    simp only [SV.toVal, Option.map_eq_some_iff] at h
    obtain ⟨vs, h1, rfl⟩ := h
    rw [toVals_rel h1 ha]
  | gd s w y => simp [SV.toVal] at h

theorem all2_vals (β : Nat → Nat) : ∀ l : List Value, All2 (FV.rel β) (l.map .val) l
  | [] => .nil
  | _ :: l => .cons rfl (all2_vals β l)

theorem ofVal_rel (β : Nat → Nat) (tm : Array Value) (v : Value) : (ofVal v).rel β tm v := by
  cases v <;> try exact rfl
  rename_i cs
  exact ⟨cs.toList, by simp, all2_vals β _⟩

/-- The blocks that a reference world speaks of stand in w as they stand in wr. -/
structure Now (NL : Nat → Prop) (wr w : World) : Prop where
  os : w.os = wr.os
  tape : w.tape = wr.tape
  output : w.output = wr.output
  size : wr.heap.size ≤ w.heap.size
  lt : ∀ b, NL b → b < wr.heap.size
  block : ∀ b, NL b → w.heap[b]? = wr.heap[b]?

/-- What lies between two worlds of one activation: of the blocks that are not spoken of none turned; what is newly spoken of is new. -/
structure Frm (NL : Nat → Prop) (w w' : World) (NL' : Nat → Prop) : Prop where
  size : w.heap.size ≤ w'.heap.size
  block : ∀ b, b < w.heap.size → ¬ NL b → w'.heap[b]? = w.heap[b]?
  nl : ∀ b, NL' b → NL b ∨ w.heap.size ≤ b
  up : ∀ b, NL b → NL' b
  os : w'.os = w.os
  tape : w'.tape = w.tape
  output : w'.output = w.output

theorem Frm.refl (NL : Nat → Prop) (w : World) : Frm NL w w NL := ⟨Nat.le_refl _, fun _ _ _ => rfl, fun _ h => .inl h, fun _ h => h, rfl, rfl, rfl⟩
theorem Frm.trans {A B C : Nat → Prop} {w1 w2 w3 : World} (h : Frm A w1 w2 B) (k : Frm B w2 w3 C) : Frm A w1 w3 C :=
  ⟨Nat.le_trans h.size k.size, fun b hb hn => by
    rw [k.block b (Nat.lt_of_lt_of_le hb h.size) (fun hB => (h.nl b hB).elim hn (fun hge => by omega)), h.block b hb hn],
   fun b hC => (k.nl b hC).elim (fun hB => h.nl b hB) (fun hge => .inr (Nat.le_trans h.size hge)), fun b hA => k.up b (h.up b hA), k.os.trans h.os, k.tape.trans h.tape, k.output.trans h.output⟩

def addNL (NL : Nat → Prop) (lo hi : Nat) : Nat → Prop := fun b => NL b ∨ (lo ≤ b ∧ b < hi)

theorem Now.refl {NL : Nat → Prop} {w : World} (h : ∀ b, NL b → b < w.heap.size) : Now NL w w := ⟨rfl, rfl, rfl, Nat.le_refl _, h, fun _ _ => rfl⟩

/-- The model's trees as conditions over the reference world. -/
def semVC (P : Program) {α : Type} : Sem α → World → (Nat → Prop) → (α → World → (Nat → Prop) → Prop) → Prop
  | .pure x, wr, NL, K => K x wr NL
  | .program f, wr, NL, K => semVC P (f P) wr NL K
  | .load _ a f, wr, NL, K => ∃ v, wr.cell? a = some v ∧ NL a.block ∧ semVC P (f v) wr NL K
  | .shape r f, wr, NL, K => NL r ∧ semVC P (f (wr.shape? r)) wr NL K
  | .frozen a f, wr, NL, K => NL a.block ∧ semVC P (f (wr.frozen? a)) wr NL K
  | .mark _ f, wr, NL, K => semVC P f wr NL K
  | .store _ a v f, wr, NL, K => v.oneCell' = true ∧ (∃ old, wr.cell? a = some old) ∧ wr.frozen? a = false ∧ NL a.block ∧ semVC P f (wr.setCell a v) NL K
  | .new o f, wr, NL, K => ∀ w1, Now NL wr w1 → semVC P (f w1.heap.size) (w1.alloc o) (addNL NL w1.heap.size (w1.heap.size + 1)) K
  | .choose q f, wr, NL, K => if q.forced then semVC P (f 0) wr NL K else ∀ t, semVC P (f (q.cut t)) wr NL K
  | _, _, _, _ => False

theorem Now.cell {NL : Nat → Prop} {wr w : World} (h : Now NL wr w) {a : Addr} (hn : NL a.block) : w.cell? a = wr.cell? a := World.cell?_of_block (h.block _ hn)
theorem Now.frozen {NL : Nat → Prop} {wr w : World} (h : Now NL wr w) {a : Addr} (hn : NL a.block) : w.frozen? a = wr.frozen? a := World.frozen?_of_block (h.block _ hn)
theorem Now.shape {NL : Nat → Prop} {wr w : World} (h : Now NL wr w) {r : Nat} (hn : NL r) : w.shape? r = wr.shape? r := by
  simp [World.shape?, h.block _ hn]

theorem setCell_other (w : World) (a : Addr) (v : Value) (b : Nat) (h : b ≠ a.block) : (w.setCell a v).heap[b]? = w.heap[b]? := by
  simp only [World.setCell, Array.getElem?_modify]
  rw [if_neg (by omega)]
theorem setCell_congr {w w' : World} (a : Addr) (v : Value) (h : w'.heap[a.block]? = w.heap[a.block]?) : (w'.setCell a v).heap[a.block]? = (w.setCell a v).heap[a.block]? := by
  simp only [World.setCell, Array.getElem?_modify]
  simp [h]

theorem Now.setCell {NL : Nat → Prop} {wr w : World} (h : Now NL wr w) {a : Addr} (v : Value) (hn : NL a.block) : Now NL (wr.setCell a v) (w.setCell a v) :=
  ⟨h.os, h.tape, h.output, by simpa [World.setCell] using h.size, fun b hb => by simpa [World.setCell] using h.lt b hb, fun b hb => by
    by_cases e : b = a.block
    · subst e; exact setCell_congr a v (h.block _ hn)
    · rw [setCell_other _ _ _ _ e, setCell_other _ _ _ _ e]; exact h.block b hb⟩

theorem Frm.setCell {NL : Nat → Prop} {w : World} {a : Addr} (v : Value) (hn : NL a.block) : Frm NL w (w.setCell a v) NL :=
  ⟨by simp [World.setCell], fun b _ hb => setCell_other _ _ _ _ (fun e => hb (e ▸ hn)), fun _ h => .inl h, fun _ h => h, rfl, rfl, rfl⟩

theorem alloc_lt (w : World) (o : Obj) (b : Nat) (h : b < w.heap.size) : (w.alloc o).heap[b]? = w.heap[b]? := Below.heap_alloc_ w o b h
where
  Below.heap_alloc_ (w : World) (o : Obj) (k : Nat) (h : k < w.heap.size) : (w.alloc o).heap[k]? = w.heap[k]? := by
    show (w.heap.push o)[k]? = _
    rw [Array.getElem?_push, if_neg (by omega)]

theorem semVC_run {P : Program} {α : Type} (s : Sem α) : ∀ {wr w : World} {NL : Nat → Prop} {K : α → World → (Nat → Prop) → Prop}, Now NL wr w → semVC P s wr NL K →
    ∃ x w' wr' NL', s.run P w = .ok x w' ∧ K x wr' NL' ∧ Now NL' wr' w' ∧ Frm NL w w' NL' := by
  induction s with
  | pure x => intro wr w NL K hn h; exact ⟨x, w, wr, NL, rfl, h, hn, .refl _ _⟩
  | program f ih => intro wr w NL K hn h; exact ih P hn h
  | load m a f ih =>
    intro wr w NL K hn h
    obtain ⟨v, hc, hb, h⟩ := h
    obtain ⟨x, w', wr', NL', hr, hk⟩ := ih v hn h
    exact ⟨x, w', wr', NL', by simp only [Sem.run, hn.cell hb, hc]; exact hr, hk⟩
  | store m a v f ih =>
    intro wr w NL K hn h
    obtain ⟨h1, ⟨old, hc⟩, hf, hb, h⟩ := h
    obtain ⟨x, w', wr', NL', hr, hk, hn', hfr⟩ := ih (hn.setCell v hb) h
    refine ⟨x, w', wr', NL', ?_, hk, hn', (Frm.setCell v hb).trans hfr⟩
    have hc' := (hn.cell hb).trans hc
    have hf' := (hn.frozen hb).trans hf
    cases v <;> simp_all [Sem.run, Value.oneCell']
  | new o f ih =>
    intro wr w NL K hn h
    have hlt : ∀ b, NL b → b < w.heap.size := fun b hb => Nat.lt_of_lt_of_le (hn.lt b hb) hn.size
    have hn1 : Now (addNL NL w.heap.size (w.heap.size + 1)) (w.alloc o) (w.alloc o) := .refl fun b hb => by
      have hs : (w.alloc o).heap.size = w.heap.size + 1 := by simp
      rcases hb with hb | hb
      · have := hlt b hb; omega
      · omega
    obtain ⟨x, w', wr', NL', hr, hk, hn', hfr⟩ := ih w.heap.size hn1 (h w hn)
    refine ⟨x, w', wr', NL', hr, hk, hn', Frm.trans ⟨by simp, fun b hb _ => alloc_lt w o b hb, fun b hb => hb.elim .inl (fun h => .inr h.1), fun b hb => .inl hb, rfl, rfl, rfl⟩ hfr⟩
  | shape r f ih =>
    intro wr w NL K hn h
    obtain ⟨hb, h⟩ := h
    obtain ⟨x, w', wr', NL', hr, hk⟩ := ih _ hn h
    exact ⟨x, w', wr', NL', by simp only [Sem.run, hn.shape hb]; exact hr, hk⟩
  | frozen a f ih =>
    intro wr w NL K hn h
    obtain ⟨hb, h⟩ := h
    obtain ⟨x, w', wr', NL', hr, hk⟩ := ih _ hn h
    exact ⟨x, w', wr', NL', by simp only [Sem.run, hn.frozen hb]; exact hr, hk⟩
  | mark m f ih => intro wr w NL K hn h; exact ih hn h
  | choose q f ih =>
    intro wr w NL K hn h
    simp only [semVC] at h
    by_cases hq : q.forced = true
    · rw [if_pos hq] at h
      obtain ⟨x, w', wr', NL', hr, hk⟩ := ih 0 hn h
      exact ⟨x, w', wr', NL', by simp only [Sem.run, hq, if_true]; exact hr, hk⟩
    · rw [if_neg hq] at h
      have hn1 : Now NL wr { w with drawn := w.drawn + 1 } := ⟨hn.os, hn.tape, hn.output, hn.size, hn.lt, hn.block⟩
      obtain ⟨x, w', wr', NL', hr, hk, hn', hfr⟩ := ih _ hn1 (h (w.tape w.drawn q))
      exact ⟨x, w', wr', NL', by simp only [Sem.run, hq]; exact hr, hk, hn', ⟨hfr.size, hfr.block, hfr.nl, hfr.up, hfr.os, hfr.tape, hfr.output⟩⟩
  | freeze a n f ih => intro wr w NL K hn h; exact h.elim
  | getObj r f ih => intro wr w NL K hn h; exact h.elim
  | setObj r o f ih => intro wr w NL K hn h; exact h.elim
  | sys c f ih => intro wr w NL K hn h; exact h.elim
  | halt x => intro wr w NL K hn h; exact h.elim

end Go.Eng
