/- Part of the proofs of this seat: lemmas about calls of functions of the program (Con12); each states its own conditions. -/
import Derived.Test.YtboedgnahmibcaaDoorCon11
set_option linter.unusedVariables false
set_option linter.unusedSimpArgs false
namespace Go.Proofs.YtboedgnahmibcaaDoor
open Go Go.Eng Go.RowKit Go.Pal

/-- A slice of one's own, told as rows at a row. -/
theorem own_get {w : World} {base : Nat} {s : SL} {ms : List MG} (h : w.ownsRow base 47 25 s.v ms.length (ms.map MG.l).flatten) (hl : ms.length ≤ 1000) {k : Nat} {m : MG} (hk : ms[k]? = some m) :
    ∃ g cap cur, s = ⟨some ⟨g, 0, none⟩, ms.length, cap⟩ ∧ base ≤ g ∧ w.heap[g]? = some (.cells cur 47 (0, 0)) ∧ cur.size = cap * 25 ∧ ms.length ≤ cap ∧ PureRuns Tryd.prog (Instr.indexAt 51 s.v (.int .i64 (k : Int))) (.pointer (some ⟨g, k * 25, none⟩)) ∧ CellsAt w ⟨g, k * 25, none⟩ m.l ∧
      cur.toList.take (k * 25) ++ m.l ++ cur.toList.drop (k * 25 + 25) = cur.toList := by
  have hkl : k < ms.length := (List.getElem?_eq_some_iff.1 hk).1
  obtain ⟨hxs, ⟨_, h0⟩ | ⟨g, cap, cur, hv, hb, hg, hnc, hcm, hcs, htk⟩⟩ := h
  · omega
  obtain ⟨a, n, c⟩ := s
  simp only [SL.v, Value.slice.injEq] at hv
  obtain ⟨rfl, rfl, rfl⟩ := hv
  have ra := run_index (P := Tryd.prog) und51 info47 (s := ⟨some ⟨g, 0, none⟩, ms.length, c⟩) rfl (i := (k : Int)) (by omega) (by simpa using hkl)
  simp only [Int.toNat_natCast, size47, Addr.add_lit, Nat.zero_add] at ra
  have hcell : ∀ j u, m.l[j]? = some u → cur.toList[k * 25 + j]? = some u := fun j u hj => by
    have h1 := take_mul_get (rows_len ms) (i := k) (r := m.l) (by simp [hk]) j u hj
    rw [← htk, List.getElem?_take] at h1
    split at h1
    · exact h1
    · cases h1
  have hfit : k * 25 + 25 ≤ cur.toList.length := by simp only [Array.length_toList, hcs]; omega
  refine ⟨g, c, cur, rfl, hb, hg, hcs, hnc, ra, ⟨fun j u hj => ?_⟩, ?_⟩
  · have := hcell j u hj
    simp only [Addr.add_lit, World.cell?, hg]
    simpa using this
  · have e : m.l = (cur.toList.drop (k * 25)).take 25 := by
      apply List.ext_getElem?
      intro j
      rw [List.getElem?_take]
      by_cases hj : j < 25
      · rw [if_pos hj, List.getElem?_drop]
        have hj' : j < m.l.length := by rw [mg_len]; exact hj
        rw [List.getElem?_eq_getElem hj']
        exact (hcell j _ (List.getElem?_eq_getElem hj')).symm
      · rw [if_neg hj, List.getElem?_eq_none (by rw [mg_len]; omega)]
    rw [e, List.append_assoc, ← List.drop_drop, List.take_append_drop, List.take_append_drop]

theorem setRow_same {w : World} {g : Nat} {cur : Array Value} {T : TypeId} (hg : w.heap[g]? = some (.cells cur T (0, 0))) : w.setRow g cur = w := setRow_self w g cur T (0, 0) hg

theorem c38 {w : World} {p : Nat} {s : SL} {ms : List MG} (h : SBag w p s ms) :
    Calls Tryd.prog 38 #[.pointer (some ⟨p, 0, none⟩)] w fun e w2 => ∃ s' : SL, e = .returned s'.v ∧ Below w.heap.size w w2 ∧ w2.ownsRow w.heap.size 47 25 s'.v ms.length (ms.map MG.l).flatten := by
  have hlen := h.len
  refine vc_38 w p _ ⟨s, fun _ => h.cells, fun w1 hn1 => ?_⟩
  have u1 : Upto w.heap.size no w w1 := .now' hn1 fun _ h => h
  refine ⟨_, ⟨c69 (h.upto u1).rows hlen⟩, fun e w4 ⟨s', he, hb, hown⟩ => ⟨s', he, Below.keeps hb, ?_⟩⟩
  have u4 : Upto w.heap.size no w w4 := mid_below u1 hb
  have hown' : w4.ownsRow w.heap.size 47 25 s'.v ms.length (ms.map MG.l).flatten := by
    obtain ⟨hx, hy⟩ := hown
    refine ⟨hx, hy.imp id fun ⟨g, cap, cur, a, b, c⟩ => ⟨g, cap, cur, a, Nat.le_trans u1.size b, c⟩⟩
  have hnn : s'.n = ms.length := by
    rcases hown.2 with ⟨hv, hn⟩ | ⟨g, cap, cur, hv, _⟩
    · simp only [SL.v, Value.slice.injEq] at hv; omega
    · simp only [SL.v, Value.slice.injEq] at hv; omega
  refine ⟨fun x => 0 ≤ x.1 ∧ x.1 ≤ ms.length ∧ Upto w.heap.size no w x.2.1 ∧ x.2.1.ownsRow w.heap.size 47 25 s'.v ms.length (ms.map MG.l).flatten ∧ (∀ i, i < w.heap.size → x.2.2 i) ∧ ∀ g, s'.v.ownBlock = some g → x.2.2 g, fun x => (ms.length - x.1).toNat,
    ⟨rfl, (0, w4, _), ⟨by simp, by simp, u4, hown', fun _ h => .inl h, fun g hg => .inr ⟨(hown.lt g hg).1, (hown.lt g hg).2⟩⟩, rfl, rfl, ⟨rfl, trivial⟩, trivial⟩, fun x ⟨hx0, hxl, hxu, hxo, hxn, hxg⟩ => ⟨fun hlt => ?_, fun hge w18 hn18 _ => ⟨s', rfl, toB (mid_now hxu hn18 hxn), own_now hxo fun g hg => hn18.block g (hxg g hg)⟩⟩⟩
  obtain ⟨i, W, NL⟩ := x
  simp only at hx0 hxl hxu hxo hxn hxg hlt ⊢
  obtain ⟨k, rfl⟩ : ∃ k : Nat, i = k := ⟨i.toNat, by omega⟩
  have hk : k < ms.length := by simp [hnn] at hlt; exact hlt
  obtain ⟨g, cap, cur, rfl, hbg, hg, hcs, hnc, hri, hcells, hsame⟩ := own_get hxo hlen (List.getElem?_eq_getElem hk)
  refine ⟨_, fun _ => hri, ms[k], fun _ => ⟨hcells, hxg g rfl⟩, fun w10 hn10 => ⟨_, ⟨cn67 (h.bare _ (List.getElem_mem hk))⟩, fun e w13 ⟨he, hb13⟩ => ⟨ms[k], he, Below.keeps hb13, _, fun _ => hri, ?_⟩⟩⟩
  have hg10 : w10.heap[g]? = some (.cells cur 47 (0, 0)) := by rw [hn10.block g (hxg g rfl)]; exact hg
  have hg13 : w13.heap[g]? = some (.cells cur 47 (0, 0)) := by rw [hb13.block g (Array.getElem?_eq_some_iff.1 hg10).1]; exact hg10
  have hst := stores_row (P := Tryd.prog) info47 (NL := fun b => NL b ∨ w10.heap.size ≤ b ∧ b < w13.heap.size) (off := k * 25) (v := (ms[k]).v) hg13 (.inl (hxg g rfl)) (by rw [size47]; rfl) (by rw [mgv_size, hcs]; omega) (by rw [mgv_cells]; exact mg_one _)
  rw [mgv_cells, mg_len, hsame, Array.toArray_toList, setRow_same hg13] at hst
  refine ⟨w13, hst, trivial, (((k : Int) + 1), w13, _), ⟨by simp; omega, by simp; omega, mid_below (mid_now hxu hn10 hxn) hb13, ?_, fun i hi => .inl (hxn i hi), fun g hg => .inl (hxg g hg)⟩, by simp; omega, rfl, rfl, ⟨?_, trivial⟩, trivial⟩
  · refine own_now hxo fun g' hg' => ?_
    simp only [SL.v, Value.ownBlock, Option.some.injEq] at hg'
    subst hg'
    rw [hg13, hg]
  · rw [wrap64 (by omega) (by omega)]
end Go.Proofs.YtboedgnahmibcaaDoor
