/-
  What calls leave as it is.
-/
import Derived.Test.YtboedgnahmibcaaDoorOwn
set_option linter.unusedVariables false
namespace Go.Pal
open Go Go.Eng Go.RowKit

/-- Of the first N blocks none turned but those of X. -/
structure Upto (N : Nat) (X : Nat → Prop) (w w' : World) : Prop where
  os : w'.os = w.os
  tape : w'.tape = w.tape
  output : w'.output = w.output
  size : w.heap.size ≤ w'.heap.size
  block : ∀ b, b < N → ¬ X b → w'.heap[b]? = w.heap[b]?

theorem Upto.refl (N : Nat) (X : Nat → Prop) (w : World) : Upto N X w w := ⟨rfl, rfl, rfl, Nat.le_refl _, fun _ _ _ => rfl⟩
theorem Upto.trans {N : Nat} {X : Nat → Prop} {a b c : World} (h : Upto N X a b) (k : Upto N X b c) : Upto N X a c :=
  ⟨k.os.trans h.os, k.tape.trans h.tape, k.output.trans h.output, Nat.le_trans h.size k.size, fun i hi hx => (k.block i hi hx).trans (h.block i hi hx)⟩
theorem Upto.mono {N M : Nat} {X Y : Nat → Prop} {a b : World} (h : Upto N X a b) (hm : M ≤ N) (hx : ∀ i, i < M → X i → Y i) : Upto M Y a b :=
  ⟨h.os, h.tape, h.output, h.size, fun i hi hy => h.block i (by omega) (fun hX => hy (hx i hi hX))⟩
theorem Upto.now {N : Nat} {X NL : Nat → Prop} {a b : World} (h : Now NL a b) (hn : ∀ i, i < N → ¬ X i → NL i) : Upto N X a b :=
  ⟨h.os, h.tape, h.output, h.size, fun i hi hx => h.block i (hn i hi hx)⟩
theorem Upto.below {N : Nat} {X : Nat → Prop} {a b : World} (h : Below N a b) : Upto N X a b := ⟨h.os, h.tape, h.output, h.size, fun i hi _ => h.block i hi⟩
theorem Upto.toBelow {N : Nat} {X : Nat → Prop} {a b : World} (h : Upto N X a b) (hx : ∀ i, i < N → ¬ X i) : Below N a b :=
  ⟨h.os, h.tape, h.output, h.size, fun i hi => h.block i hi (hx i hi)⟩
theorem Upto.grown {X : Nat → Prop} {a b : World} {row : Option Nat} (h : a.grownBy b row) (hx : ∀ k, row = some k → X k) : Upto a.heap.size X a b :=
  ⟨h.os, h.tape, h.output, h.size, fun i hi hX => h.block i hi (fun e => hX (hx i e.symm))⟩
theorem Upto.keeps {X NL : Nat → Prop} {a b : World} (h : Upto a.heap.size X a b) (hx : ∀ i, X i → NL i) : KeepsE NL a b :=
  ⟨h.size, fun i hi hn => h.block i hi (fun hX => hn (hx i hX)), h.os, h.tape, h.output⟩
theorem Below.keeps {NL : Nat → Prop} {a b : World} (h : Below a.heap.size a b) : KeepsE NL a b := ⟨h.size, fun i hi _ => h.block i hi, h.os, h.tape, h.output⟩

/-- A store into a block whose cells are known. -/
theorem stores_row {P : Program} {t : TypeId} {inf : TypeInfo} (hi : P.info? t = some inf) {NL : Nat → Prop} {wr : World} {b off : Nat} {cur : Array Value} {T : TypeId} {v : Value} (hb : wr.heap[b]? = some (.cells cur T (0, 0))) (hN : NL b)
    (hsz : v.cells.size = inf.size) (hfit : off + v.cells.size ≤ cur.size) (h1 : ∀ c ∈ v.cells.toList, c.oneCell' = true) :
    StoresTo P t ⟨b, off, none⟩ v NL wr (wr.setRow b (cur.toList.take off ++ v.cells.toList ++ cur.toList.drop (off + v.cells.toList.length)).toArray) := by
  refine ⟨fun w hn => ?_⟩
  have hb' : w.heap[b]? = some (.cells cur T (0, 0)) := by rw [hn.block b hN]; exact hb
  have hst := run_storeCells_at P b off T v.cells.toList 0 cur w hb' (by simpa using hfit) h1
  refine ⟨w.setRow b (cur.toList.take off ++ v.cells.toList ++ cur.toList.drop (off + v.cells.toList.length)).toArray, ?_, ?_, ?_⟩
  · simp [storeVar, sizeOf, typeInfo, hi, hsz]
    simpa [hsz] using hst
  · have e1 := setRow_heap w b cur (cur.toList.take off ++ v.cells.toList ++ cur.toList.drop (off + v.cells.toList.length)).toArray T (0, 0) hb'
    have e2 := setRow_heap wr b cur (cur.toList.take off ++ v.cells.toList ++ cur.toList.drop (off + v.cells.toList.length)).toArray T (0, 0) hb
    refine ⟨hn.os, hn.tape, hn.output, by simpa using hn.size, fun i hi => by simpa using hn.lt i hi, fun i hi => ?_⟩
    by_cases e : i = b
    · subst e; rw [e1, e2]
    · rw [setRow_other _ _ _ _ e, setRow_other _ _ _ _ e]; exact hn.block i hi
  · exact ⟨by simp, fun i hi hni => setRow_other _ _ _ _ (fun e => hni (e ▸ hN)), fun _ h => .inl h, fun _ h => h, rfl, rfl, rfl⟩

/-- A store of one cell. -/
theorem stores_one {P : Program} {t : TypeId} {inf : TypeInfo} (hi : P.info? t = some inf) (hsz : inf.size = 1) {NL : Nat → Prop} {wr : World} {b off : Nat} {cur : Array Value} {T : TypeId} {v : Value} (hb : wr.heap[b]? = some (.cells cur T (0, 0))) (hN : NL b)
    (hv : v.oneCell' = true) (hfit : off < cur.size) :
    StoresTo P t ⟨b, off, none⟩ v NL wr (wr.setRow b (cur.setIfInBounds off v)) := by
  have hc := oneCell_cells hv
  have := stores_row (P := P) hi (NL := NL) (off := off) (v := v) hb hN (by rw [hc]; simp [hsz]) (by rw [hc]; simp; omega) (by rw [hc]; simpa using hv)
  have e : (cur.toList.take off ++ v.cells.toList ++ cur.toList.drop (off + v.cells.toList.length)).toArray = cur.setIfInBounds off v := by
    apply Array.ext'
    simp only [hc, List.length_cons, List.length_nil, Nat.zero_add, Array.toList_setIfInBounds]
    rw [List.set_eq_take_append_cons_drop, if_pos (by simpa using hfit)]
    simp
  rw [e] at this
  exact this
theorem setRow_size (w : World) (b : Nat) (cs : Array Value) : (w.setRow b cs).heap.size = w.heap.size := by simp
theorem Upto.setRow {N : Nat} {X : Nat → Prop} {w : World} {b : Nat} (cs : Array Value) (hb : N ≤ b ∨ X b) : Upto N X w (w.setRow b cs) :=
  ⟨rfl, rfl, rfl, by simp, fun i hi hx => setRow_other _ _ _ _ (fun e => by subst e; rcases hb with h | h; omega; exact hx h)⟩
end Go.Pal
