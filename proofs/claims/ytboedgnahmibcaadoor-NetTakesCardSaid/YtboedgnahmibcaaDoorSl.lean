/-
  Slices cut, built, cleared.
-/
import Derived.Test.YtboedgnahmibcaaDoorWld
set_option linter.unusedVariables false
namespace Go.Pal
open Go Go.Eng Go.RowKit

theorem fold_set : ∀ (l : List Value) (k : Nat) (cs : Array Value), k + l.length ≤ cs.size → ((l.zipIdx k).foldl (fun (cs : Array Value) (p : Value × Nat) => cs.setIfInBounds p.2 p.1) cs).toList = cs.toList.take k ++ l ++ cs.toList.drop (k + l.length)
  | [], k, cs, h => by simp
  | v :: l, k, cs, h => by
    simp only [List.length_cons] at h
    simp only [List.zipIdx_cons, List.foldl_cons]
    rw [fold_set l (k + 1) _ (by simp; omega)]
    simp only [Array.toList_setIfInBounds, List.length_cons]
    rw [List.set_eq_take_append_cons_drop, if_pos (by simp; omega)]
    have hk : (cs.toList.take k).length = k := by simp; omega
    rw [List.take_append, List.drop_append, hk]
    have e1 : k + 1 - k = 1 := by omega
    have e2 : k + 1 + l.length - k = l.length + 1 := by omega
    rw [e1, e2]
    simp only [List.take_succ_cons, List.take_zero, List.drop_succ_cons, List.drop_drop]
    rw [List.take_of_length_le (by omega), List.drop_of_length_le (by omega : (cs.toList.take k).length ≤ k + 1 + l.length)]
    simp only [List.append_assoc, List.cons_append, List.nil_append]
    congr 3
    rw [show k + 1 + l.length = k + (l.length + 1) by omega]

section
variable {P : Program}
/-- A slice of one element. -/
theorem run_build1 {t e : TypeId} {inf : TypeInfo} {z : Value} (ht : P.underlying t = some (.slice e)) (hi : P.info? e = some inf) (hz : inf.zero = some z) (hzs : z.cells.size = inf.size) (h0 : 0 < inf.size) (hsm : inf.size ≤ 16777216) {v : Value} (hv : v.cells.size = inf.size) (w : World) :
    (Instr.buildSlice t 1 #[(0, v)]).run P w = .ok (.slice (some ⟨w.heap.size, 0, none⟩) 1 1) (w.alloc (.cells v.cells e)) := by
  have hne : inf.size ≠ 0 := by omega
  have hsz : ((Array.range inf.size).map fun i => z.cells[i % z.cells.size]!).size = inf.size := by simp
  have hfill : Instr.fill (fun i => some (i * inf.size, inf.size)) ((Array.range (1 * inf.size)).map fun i => z.cells[i % z.cells.size]!) [(0, v)] = some v.cells := by
    simp only [Instr.fill, Nat.zero_mul, Nat.one_mul, Nat.zero_add]
    rw [if_neg (by simp [hv])]
    congr 1
    apply Array.ext'
    rw [← Array.foldl_toList, Array.toList_zipIdx]
    have := fold_set v.cells.toList 0 ((Array.range inf.size).map fun i => z.cells[i % z.cells.size]!) (by simp [hv])
    rw [this]
    simp [hv]
  simp [Instr.buildSlice, run_underlying ht, sizeOf, typeInfo, hi, hne, zeroValue, hz, newRow, show ¬ (16777216 < inf.size) by omega]
  simp only [Nat.one_mul] at hfill
  rw [hfill]
  simp

theorem run_size {e : TypeId} {inf : TypeInfo} (hi : P.info? e = some inf) {w : World} : (sizeOf e).run P w = .ok inf.size w := by simp [sizeOf, typeInfo, hi]
theorem pr_slice_lh {t e : TypeId} {inf : TypeInfo} (ht : P.underlying t = some (.slice (P.elem t))) (he : P.elem t = e) (hi : P.info? e = some inf) {a : Option Addr} {n c : Nat} {l h : Int} (h0 : 0 ≤ l) (h1 : l ≤ h) (h2 : h ≤ c) (hne : l < c) :
    PureRuns P (Instr.sliceAt t (.slice a n c) (some (.int .i64 l)) (some (.int .i64 h)) none) (.slice (a.map (·.add (l.toNat * inf.size))) (h.toNat - l.toNat) (c - l.toNat)) :=
  ⟨fun w => by
    rw [run_sliceAt_slice w t _ _ _ _ ht, run_slice_lh w t a n c ht .i64 .i64 l h h0 h1 h2, he]
    rw [run_size hi]
    have : ¬ c = l.toNat := by omega
    simp [sliced, this]⟩
theorem pr_slice_h {t e : TypeId} {inf : TypeInfo} (ht : P.underlying t = some (.slice (P.elem t))) (he : P.elem t = e) (hi : P.info? e = some inf) {a : Option Addr} {n c : Nat} {h : Int} (h0 : 0 ≤ h) (h2 : h ≤ c) :
    PureRuns P (Instr.sliceAt t (.slice a n c) none (some (.int .i64 h)) none) (.slice a h.toNat c) :=
  ⟨fun w => by
    rw [run_sliceAt_slice w t _ _ _ _ ht, run_slice_h w t a n c ht .i64 h h0 h2, he]
    rw [run_size hi]
    simp [sliced]
    cases a <;> simp [Addr.add]⟩
theorem pr_slice_l {t e : TypeId} {inf : TypeInfo} (ht : P.underlying t = some (.slice (P.elem t))) (he : P.elem t = e) (hi : P.info? e = some inf) {a : Option Addr} {n c : Nat} {l : Int} (h0 : 0 ≤ l) (h1 : l ≤ n) :
    PureRuns P (Instr.sliceAt t (.slice a n c) (some (.int .i64 l)) none none) (.slice (if c = l.toNat then a else a.map (·.add (l.toNat * inf.size))) (n - l.toNat) (c - l.toNat)) :=
  ⟨fun w => by
    rw [run_sliceAt_slice w t _ _ _ _ ht, run_slice_l w t a n c ht .i64 l h0 h1, he]
    rw [run_size hi]
    simp [sliced]⟩
theorem pr_slice_lhm {t e : TypeId} {inf : TypeInfo} (ht : P.underlying t = some (.slice (P.elem t))) (he : P.elem t = e) (hi : P.info? e = some inf) {a : Option Addr} {n c : Nat} {l h m : Int} (h0 : 0 ≤ l) (h1 : l ≤ h) (h2 : h ≤ m) (h3 : m ≤ c) :
    PureRuns P (Instr.sliceAt t (.slice a n c) (some (.int .i64 l)) (some (.int .i64 h)) (some (.int .i64 m))) (.slice (if m.toNat = l.toNat then a else a.map (·.add (l.toNat * inf.size))) (h.toNat - l.toNat) (m.toNat - l.toNat)) :=
  ⟨fun w => by
    rw [run_sliceAt_slice w t _ _ _ _ ht, run_slice_lhm w t a n c ht .i64 .i64 .i64 l h m h0 h1 h2 h3, he]
    rw [run_size hi]
    simp [sliced]⟩

/-- A slice's elements made zero. -/
theorem run_clear {t e ty : TypeId} {inf : TypeInfo} {z : Value} (ht : P.underlying t = some (.slice e)) (hi : P.info? e = some inf) (hz : inf.zero = some z) (hzs : z.cells.size = inf.size) (hz1 : ∀ c ∈ z.cells.toList, c.oneCell' = true) {w : World} {g off n c : Nat} {cur : Array Value} {T : TypeId}
    (hg : w.heap[g]? = some (.cells cur T (0, 0))) (hn : 0 < n) (hfit : off + n * inf.size ≤ cur.size) :
    ∃ new : List Value, new.length = n * inf.size ∧ (Builtin.clear_ #[t] ty #[.slice (some ⟨g, off, none⟩) n c]).run P w = .ok (.tuple #[]) (w.setRow g (cur.toList.take off ++ new ++ cur.toList.drop (off + new.length)).toArray) := by
  refine ⟨(Builtin.zeroCells z.cells n).toList, by simp [size_zeroCells, hzs], ?_⟩
  have hl : (Builtin.zeroCells z.cells n).toList.length = n * inf.size := by simp [size_zeroCells, hzs]
  have h1 : ∀ c ∈ (Builtin.zeroCells z.cells n).toList, c.oneCell' = true := fun c hc => by
    simp only [Builtin.zeroCells, Array.toList_map, List.mem_map] at hc
    obtain ⟨i, hi', rfl⟩ := hc
    by_cases hs : z.cells.size = 0
    · simp only [hs, Nat.mul_zero] at hi'
      simp at hi'
    · have : i % z.cells.size < z.cells.size := Nat.mod_lt _ (by omega)
      rw [getElem!_pos z.cells _ this]
      exact hz1 _ (by simp)
  have hst := run_storeCells_at P g off T (Builtin.zeroCells z.cells n).toList 0 cur w hg (by rw [hl]; simpa using hfit) h1
  simp only [Nat.add_zero] at hst
  obtain ⟨m, rfl⟩ : ∃ m, n = m + 1 := ⟨n - 1, by omega⟩
  have hu : (underlying t).run P w = .ok (.slice e) w := run_underlying ht w
  have hv : (zeroValue e).run P w = .ok z w := by simp [zeroValue, typeInfo, hi, hz]
  simp [Builtin.clear_]
  rw [hu]
  simp only [Result.andThen_ok, Sem.run_bind, Sem.run_map, hv, hst]
  simp
end
end Go.Pal
namespace Go.Pal
open Go Go.Eng Go.RowKit
def no : Nat → Prop := fun _ => False
theorem RowsOf.upto {w w' : World} {sz : Nat} {s : SL} {rows : List (List Value)} (h : RowsOf w sz s rows) (hb : Upto w.heap.size no w w') : RowsOf w' sz s rows := by
  refine ⟨h.len, h.lt, fun i r hr => ?_⟩
  obtain ⟨a, ha, hlt, hc⟩ := h.row i r hr
  refine ⟨a, ha, Nat.lt_of_lt_of_le hlt hb.size, ⟨fun j v hj => ?_⟩⟩
  have h1 := hc.out j v hj
  have hbl : ((a.add (i * sz)).add j).block = a.block := by rw [add_block, add_block]
  unfold World.cell? at h1 ⊢
  rw [hbl] at h1 ⊢
  rw [hb.block _ hlt (fun h => h)]
  exact h1
theorem Upto.now' {N : Nat} {NL : Nat → Prop} {a b : World} (h : Now NL a b) (hn : ∀ i, i < N → NL i) : Upto N no a b := .now h fun i hi _ => hn i hi
theorem Upto.alloc {N : Nat} {X : Nat → Prop} {w : World} (o : Obj) (hN : N ≤ w.heap.size) : Upto N X w (w.alloc o) := ⟨rfl, rfl, rfl, by simp, fun i hi _ => heap_alloc_old w o (by omega)⟩
theorem heap_new (w : World) (o : Obj) : (w.alloc o).heap[w.heap.size]? = some o := heap_alloc_new w o
theorem alloc_size (w : World) (o : Obj) : (w.alloc o).heap.size = w.heap.size + 1 := by simp
/-- A slice of one's own, under another world. -/
theorem own_now {w w' : World} {base e sz : Nat} {v : Value} {n : Nat} {xs : List Value} (h : w.ownsRow base e sz v n xs) (hb : ∀ g, v.ownBlock = some g → w'.heap[g]? = w.heap[g]?) : w'.ownsRow base e sz v n xs := by
  obtain ⟨hl, h⟩ := h
  refine ⟨hl, ?_⟩
  rcases h with h | ⟨g, cap, cur, rfl, h1, h2, h3⟩
  · exact .inl h
  · exact .inr ⟨g, cap, cur, rfl, h1, by rw [hb g rfl]; exact h2, h3⟩
end Go.Pal
