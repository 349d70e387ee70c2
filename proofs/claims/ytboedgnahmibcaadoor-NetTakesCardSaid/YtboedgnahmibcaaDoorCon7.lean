/- Part of the proofs of this seat: lemmas about calls of functions of the program (Con7); each states its own conditions. -/
import Derived.Test.YtboedgnahmibcaaDoorCon6
import Derived.Test.YtboedgnahmibcaaDoorSl
import Derived.Test.YtboedgnahmibcaaDoorVc4
set_option linter.unusedVariables false
set_option linter.unusedSimpArgs false
namespace Go.Proofs.YtboedgnahmibcaaDoor
open Go Go.Eng Go.RowKit Go.Pal

def MGz : MG := ⟨0, 0, 0, 0, 0, 0, RQ.nil, 0, 0, 0, 0, VT.nil, SL.nil, SL.nil, SL.nil⟩
theorem und51 : Tryd.prog.underlying 51 = some (.slice 47) := by kernel_rfl
theorem und51' : Tryd.prog.underlying 51 = some (.slice (Tryd.prog.elem 51)) := by kernel_rfl
theorem elem51 : Tryd.prog.elem 51 = 47 := by kernel_rfl
noncomputable def i47 : TypeInfo := (Tryd.prog.info? 47).getD default
theorem info47 : Tryd.prog.info? 47 = some i47 := by kernel_rfl
theorem size47 : i47.size = 25 := by kernel_rfl
theorem zero47 : i47.zero = some MGz.v := by kernel_rfl
theorem bytes47 : i47.bytes ≤ 1000 := of_decide_eq_true (by kernel_rfl)

theorem info_size {i : TypeInfo} (h : i = i47) : i.size = 25 := by rw [h]; exact size47

/-- A message without lists. -/
structure Bare (m : MG) : Prop where
  ms : m.vo.ms = SL.nil
  ps : m.vo.ps = SL.nil
  qs : m.vo.qs = SL.nil
  vs : m.vs = SL.nil
  ss : m.ss = SL.nil
  ds : m.ds = SL.nil
def dOf (m : MG) : MD := ⟨m.kd, m.fr, m.to, m.ep, m.vi, m.sq, m.rq, m.rt, m.ct, m.pg, m.rs, ⟨m.vo.fr, m.vo.ep, m.vo.vi, m.vo.lo, [], [], []⟩, [], [], []⟩
theorem bare_is {m : MG} (h : Bare m) (w : World) : MsgIs w m (dOf m) := by
  refine ⟨rfl, rfl, rfl, rfl, rfl, rfl, rfl, rfl, rfl, rfl, rfl, ⟨rfl, rfl, rfl, rfl, ?_, ?_, ?_⟩, ?_, ?_, ?_⟩
  · rw [h.ms]; exact rows_nil w 2
  · rw [h.ps]; exact rows_nil w 7
  · rw [h.qs]; exact rows_nil w 7
  · rw [h.vs]; exact vs_nil w
  · rw [h.ss]; exact rows_nil w 1
  · rw [h.ds]; exact rows_nil w 1
def isB (m : MG) : Bool := isM m (dOf m) false false
theorem c46b {w : World} {m : MG} (h : Bare m) (h6 : m.kd ≠ 6) (h7 : m.kd ≠ 7) : Calls Tryd.prog 46 #[m.v] w (Ret w (.bool (isB m))) :=
  c46 (bare_is h w) false false (fun e => absurd e h6) (fun e => absurd e h7)

theorem below0 {w w0 w' : World} (h0 : Now (fun b => b < w.heap.size) w w0) (h : Below w0.heap.size w0 w') : Below w.heap.size w w' :=
  (Upto.trans (Upto.now' (N := w.heap.size) h0 (fun _ h => h)) ((Upto.below (X := no) h).mono h0.size (fun _ _ h => h))).toBelow fun _ _ h => h

theorem mg_len (m : MG) : m.l.length = 25 := rfl
theorem mg_one (m : MG) : ∀ v ∈ m.l, v.oneCell' = true := by
  intro v hv
  simp only [MG.l, RQ.l, VT.l, SL.v, List.cons_append, List.nil_append, List.mem_cons, List.mem_nil_iff, or_false] at hv
  rcases hv with rfl | rfl | rfl | rfl | rfl | rfl | rfl | rfl | rfl | rfl | rfl | rfl | rfl | rfl | rfl | rfl | rfl | rfl | rfl | rfl | rfl | rfl | rfl | rfl | rfl <;> rfl
theorem rows_len (ms : List MG) : ∀ r ∈ ms.map MG.l, r.length = 25 := by
  intro r hr
  obtain ⟨m, _, rfl⟩ := List.mem_map.1 hr
  exact mg_len m
theorem rows_one (ms : List MG) : ∀ v ∈ (ms.map MG.l).flatten, v.oneCell' = true := by
  intro v hv
  obtain ⟨r, hr, hv⟩ := List.mem_flatten.1 hv
  obtain ⟨m, _, rfl⟩ := List.mem_map.1 hr
  exact mg_one m v hv
theorem flat_len (ms : List MG) : (ms.map MG.l).flatten.length = ms.length * 25 := by
  rw [flatten_length (rows_len ms)]; simp

theorem c69 {w : World} {s : SL} {ms : List MG} (h : RowsOf w 25 s (ms.map MG.l)) (hn : ms.length ≤ 1000) :
    Calls Tryd.prog 69 #[s.v] w fun e w2 => ∃ s' : SL, e = .returned s'.v ∧ Below w.heap.size w w2 ∧ w2.ownsRow w.heap.size 47 25 s'.v ms.length (ms.map MG.l).flatten := by
  have hl := h.len
  simp only [List.length_map] at hl
  refine vc_69 w s _ ⟨fun h0 w0 hn0 _ => ?_, fun h0 w1 hn1 => ?_⟩
  · have : ms = [] := List.eq_nil_of_length_eq_zero (by simp at h0; omega)
    subst this
    exact ⟨SL.nil, rfl, hn0.toBelow, World.ownsRow_nil w0 w.heap.size 47 25⟩
  · have hpos : 0 < s.n := by simp at h0; omega
    have hmk := run_makeSlice (P := Tryd.prog) w1 51 47 i47 MGz.v und51 info47 zero47 .i64 .i64 (s.n : Int) (s.n : Int) (by omega) (by omega) (by rw [size47]; omega) (by have := bytes47; have : (i47.bytes : Int) * s.n ≤ 1000 * 1000 := Int.mul_le_mul (by omega) (by omega) (by omega) (by omega); omega) (by omega)
    simp only [Int.toNat_natCast, size47] at hmk
    refine ⟨⟨some ⟨w1.heap.size, 0, none⟩, s.n, s.n⟩, _, ⟨hmk⟩, Below.keeps ((Upto.alloc (X := no) _ (Nat.le_refl _)).toBelow fun _ _ h => h), fun w4 hn4 => ?_⟩
    generalize hcells : madeCells (MGz.v.cells) (s.n * 25) = cells at hn4 hmk
    have hcsz : cells.size = s.n * 25 := by rw [← hcells]; exact size_madeCells _ _
    have hs1 : w1.heap.size = w1.heap.size := rfl
    have hg4 : w4.heap[w1.heap.size]? = some (.cells cells 47 (0, 0)) := by
      rw [hn4.block _ (Or.inr ⟨Nat.le_refl _, by simp⟩)]; exact heap_new w1 _
    have u1 : Upto w.heap.size no w w1 := .now' hn1 fun _ h => h
    have u2 : Upto w.heap.size no w1 (w1.alloc (.cells cells 47)) := .alloc _ hn1.size
    have u3 : Upto w.heap.size no (w1.alloc (.cells cells 47)) w4 := .now' hn4 fun _ h => Or.inl h
    have h4 := h.upto ((u1.trans u2).trans u3)
    obtain ⟨a, ha⟩ : ∃ a, s.a = some a := by
      obtain ⟨a, ha, _⟩ := h.row 0 _ (List.getElem?_eq_getElem (by simp; omega))
      exact ⟨a, ha⟩
    have hfl := flat_len ms
    have hcp := run_copy_rows (P := Tryd.prog) w4 51 51 3 47 i47 w1.heap.size s.n s.n a s.n s.c cells 47 (ms.map MG.l).flatten und51 info47 hg4 (by rw [size47, hfl, hl]; simp) (h4.cells (rows_len ms) (by omega) ha) (by omega) (rows_one ms)
    have hsv : s.v = .slice (some a) s.n s.c := by simp only [SL.v, ha]
    refine ⟨(Nat.min s.n s.n : Nat), _, ⟨by rw [hsv]; exact hcp⟩, Upto.keeps (X := fun b => b = w1.heap.size) (.setRow _ (.inr rfl)) (fun i hi => by subst hi; exact Or.inr ⟨Nat.le_refl _, by simp⟩), fun w7 hn7 _ => ⟨_, rfl, ?_, ?_⟩⟩
    · have u4 : Upto w.heap.size no w4 (w4.setRow w1.heap.size ((ms.map MG.l).flatten ++ cells.toList.drop (ms.map MG.l).flatten.length).toArray) := .setRow _ (.inl hn1.size)
      exact ((((u1.trans u2).trans u3).trans u4).trans (.now' hn7 fun _ h => Or.inl (Or.inl h))).toBelow fun _ _ h => h
    · have hg7 : w7.heap[w1.heap.size]? = some (.cells ((ms.map MG.l).flatten ++ cells.toList.drop (ms.map MG.l).flatten.length).toArray 47 (0, 0)) := by
        rw [hn7.block _ (Or.inl (Or.inr ⟨Nat.le_refl _, by simp⟩))]
        exact setRow_heap w4 w1.heap.size cells _ 47 (0, 0) hg4
      refine ⟨by rw [hfl], .inr ⟨w1.heap.size, s.n, _, ?_, hn1.size, hg7, by omega, by unfold maxLen; omega, ?_, ?_⟩⟩
      · simp only [SL.v, hl]
      · simp [hfl, hcsz]; omega
      · simp only [List.take_left' (by rw [hfl] : (ms.map MG.l).flatten.length = ms.length * 25)]
end Go.Proofs.YtboedgnahmibcaaDoor
