/-
  What a slice tells: its rows.
-/
import Derived.Test.YtboedgnahmibcaaDoorDat
set_option linter.unusedVariables false
namespace Go.Pal
open Go Go.Eng Go.RowKit

/-- The rows that a slice tells, each of so many cells. -/
structure RowsOf (w : World) (sz : Nat) (s : SL) (rows : List (List Value)) : Prop where
  len : s.n = rows.length
  lt : s.n < 4611686018427387904
  row : ∀ (i : Nat) (r : List Value), rows[i]? = some r → ∃ a, s.a = some a ∧ a.block < w.heap.size ∧ CellsAt w (a.add (i * sz)) r

theorem add_block (a : Addr) (n : Nat) : (a.add n).block = a.block := by
  unfold Addr.add; split <;> rfl

theorem RowsOf.now {w w' : World} {sz : Nat} {s : SL} {rows : List (List Value)} (h : RowsOf w sz s rows) (hb : Now (fun b => b < w.heap.size) w w') : RowsOf w' sz s rows := by
  refine ⟨h.len, h.lt, fun i r hr => ?_⟩
  obtain ⟨a, ha, hlt, hc⟩ := h.row i r hr
  have hs : w.heap.size ≤ w'.heap.size := hb.size
  refine ⟨a, ha, Nat.lt_of_lt_of_le hlt hs, ⟨fun j v hj => ?_⟩⟩
  have h1 := hc.out j v hj
  have hbl : ((a.add (i * sz)).add j).block = a.block := by rw [add_block, add_block]
  unfold World.cell? at h1 ⊢
  rw [hbl] at h1 ⊢
  rw [hb.block _ hlt]
  exact h1

theorem run_index {P : Program} {T e : TypeId} {inf : TypeInfo} (hu : P.underlying T = some (.slice e)) (hi : P.info? e = some inf) {s : SL} {a : Addr} (ha : s.a = some a) {i : Int} (h0 : 0 ≤ i) (h : i.toNat < s.n) :
    PureRuns P (Instr.indexAt T s.v (.int .i64 i)) (.pointer (some (a.add (i.toNat * inf.size)))) := by
  refine ⟨fun w => ?_⟩
  have h' : i < (s.n : Int) := by omega
  simp [Instr.indexAt, SL.v, ha, asIntOf, run_underlying hu, sizeOf, typeInfo, hi, h0, h']

theorem wrap64 {i : Int} (h0 : -9223372036854775808 ≤ i) (h : i < 9223372036854775808) : IntKind.i64.wrap i = i := by
  simp only [IntKind.wrap, IntKind.signed, IntKind.bits]
  first | omega | (simp; omega) | (split <;> omega)

/-- The row at a place. -/
theorem RowsOf.get {w : World} {sz : Nat} {s : SL} {rows : List (List Value)} (h : RowsOf w sz s rows) {i : Int} (h0 : 0 ≤ i) (hi : i < (s.n : Int)) :
    ∃ (a : Addr) (r : List Value), s.a = some a ∧ rows[i.toNat]? = some r ∧ (a.add (i.toNat * sz)).block < w.heap.size ∧ CellsAt w (a.add (i.toNat * sz)) r ∧ i.toNat < s.n := by
  have hl : i.toNat < rows.length := by have := h.len; omega
  obtain ⟨a, ha, hlt, hc⟩ := h.row i.toNat _ (List.getElem?_eq_getElem hl)
  exact ⟨a, _, ha, List.getElem?_eq_getElem hl, by rw [add_block]; exact hlt, hc, by omega⟩

end Go.Pal
