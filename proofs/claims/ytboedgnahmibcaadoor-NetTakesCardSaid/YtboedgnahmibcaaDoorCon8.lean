/- Part of the proofs of this seat: lemmas about calls of functions of the program (Con8); each states its own conditions. -/
import Derived.Test.YtboedgnahmibcaaDoorCon7
set_option linter.unusedVariables false
set_option linter.unusedSimpArgs false
namespace Go.Proofs.YtboedgnahmibcaaDoor
open Go Go.Eng Go.RowKit Go.Pal

theorem cn113 {w : World} : Calls Tryd.prog 113 #[SL.nil.v] w (Ret w SL.nil.v) :=
  vc_113 w SL.nil _ ⟨fun _ w0 hn _ => ⟨rfl, hn.toBelow⟩, fun h => by simp [SL.nil] at h⟩
theorem cn114 {w : World} : Calls Tryd.prog 114 #[SL.nil.v] w (Ret w SL.nil.v) :=
  vc_114 w SL.nil _ ⟨fun _ w0 hn _ => ⟨rfl, hn.toBelow⟩, fun h => by simp [SL.nil] at h⟩
theorem cn115 {w : World} : Calls Tryd.prog 115 #[SL.nil.v] w (Ret w SL.nil.v) :=
  vc_115 w SL.nil _ ⟨fun _ w0 hn _ => ⟨rfl, hn.toBelow⟩, fun h => by simp [SL.nil] at h⟩
theorem cn153 {w : World} : Calls Tryd.prog 153 #[SL.nil.v] w (Ret w SL.nil.v) :=
  vc_153 w SL.nil _ ⟨fun _ w0 hn _ => ⟨rfl, hn.toBelow⟩, fun h => by simp [SL.nil] at h⟩
theorem cn154 {w : World} : Calls Tryd.prog 154 #[SL.nil.v] w (Ret w SL.nil.v) :=
  vc_154 w SL.nil _ ⟨fun _ w0 hn _ => ⟨rfl, hn.toBelow⟩, fun h => by simp [SL.nil] at h⟩

/-- In the midst of a call: nothing that stood at its start turned. -/
theorem mid_now {w a b : World} {NL : Nat → Prop} (h : Upto w.heap.size no w a) (hn : Now NL a b) (hN : ∀ i, i < w.heap.size → NL i) : Upto w.heap.size no w b := h.trans (.now' hn hN)
theorem mid_below {w a b : World} (h : Upto w.heap.size no w a) (hb : Below a.heap.size a b) : Upto w.heap.size no w b := h.trans ((Upto.below (X := no) hb).mono h.size fun _ _ h => h)
theorem toB {w a : World} (h : Upto w.heap.size no w a) : Below w.heap.size w a := h.toBelow fun _ _ h => h

theorem cn112 {w : World} {v : VT} (h1 : v.ms = SL.nil) (h2 : v.ps = SL.nil) (h3 : v.qs = SL.nil) : Calls Tryd.prog 112 #[v.v] w (Ret w v.v) := by
  obtain ⟨fr, ep, vi, lo, ms, ps, qs⟩ := v
  simp only at h1 h2 h3
  subst h1 h2 h3
  refine vc_112 w _ _ ⟨rfl, fun w0 hn0 => ⟨_, ⟨cn153⟩, fun e w3 ⟨he, hb⟩ => ⟨SL.nil, he, Below.keeps hb, trivial, fun w5 hn5 => ⟨_, ⟨cn154⟩, fun e w8 ⟨he, hb2⟩ => ⟨SL.nil, he, Below.keeps hb2, trivial, fun w10 hn10 => ⟨_, ⟨cn154⟩, fun e w13 ⟨he, hb3⟩ => ⟨SL.nil, he, Below.keeps hb3, fun w15 hn15 _ => ⟨rfl, ?_⟩⟩⟩⟩⟩⟩⟩⟩
  have u0 : Upto w.heap.size no w w0 := .now' hn0 fun _ h => h
  exact toB (mid_now (mid_below (mid_now (mid_below (mid_now (mid_below u0 hb) hn5 fun _ h => .inl h) hb2) hn10 fun _ h => .inl (.inl h)) hb3) hn15 fun _ h => .inl (.inl (.inl h)))

theorem cn67 {w : World} {m : MG} (h : Bare m) : Calls Tryd.prog 67 #[m.v] w (Ret w m.v) := by
  obtain ⟨kd, fr, to, ep, vi, sq, rq, rt, ct, pg, rs, vo, vs, ss, ds⟩ := m
  obtain ⟨h1, h2, h3, h4, h5, h6⟩ := h
  simp only at h1 h2 h3 h4 h5 h6
  subst h4 h5 h6
  refine vc_67 w _ _ ⟨rfl, fun w0 hn0 => ⟨_, ⟨cn112 h1 h2 h3⟩, fun e w3 ⟨he, hb⟩ => ⟨vo, he, Below.keeps hb, trivial, fun w5 hn5 => ⟨_, ⟨cn113⟩, fun e w8 ⟨he, hb2⟩ => ⟨SL.nil, he, Below.keeps hb2, fun x => x.1 = 0 ∧ Upto w.heap.size no w x.2.1 ∧ ∀ i, i < w.heap.size → x.2.2 i, fun _ => 0, ⟨rfl, (0, w8, _), ⟨rfl, ?_, fun _ h => .inl (.inl h)⟩, rfl, rfl, ⟨rfl, trivial⟩, trivial⟩,
    fun x ⟨hx0, hxu, hxn⟩ => ⟨fun hlt => by simp [hx0, SL.nil] at hlt, fun _ => ⟨rfl, fun w22 hn22 => ⟨_, ⟨cn114⟩, fun e w25 ⟨he, hb3⟩ => ⟨SL.nil, he, Below.keeps hb3, trivial, fun w27 hn27 => ⟨_, ⟨cn115⟩, fun e w30 ⟨he, hb4⟩ => ⟨SL.nil, he, Below.keeps hb4, fun w32 hn32 _ => ⟨rfl, ?_⟩⟩⟩⟩⟩⟩⟩⟩⟩⟩⟩⟩
  · have u0 : Upto w.heap.size no w w0 := .now' hn0 fun _ h => h
    exact mid_below (mid_now (mid_below u0 hb) hn5 fun _ h => .inl h) hb2
  · exact toB (mid_now (mid_below (mid_now (mid_below (mid_now hxu hn22 hxn) hb3) hn27 fun _ h => .inl (hxn _ h)) hb4) hn32 fun _ h => .inl (.inl (hxn _ h)))

/-- A bag of messages without lists. -/
structure SBag (w : World) (p : Nat) (s : SL) (ms : List MG) : Prop where
  cell : w.heap[p]? = some (.cells #[s.v] 129 (0, 0))
  own : w.ownsRow 0 47 25 s.v ms.length (ms.map MG.l).flatten
  bare : ∀ m ∈ ms, Bare m
  ne : ∀ g, s.v.ownBlock = some g → g ≠ p
  len : ms.length ≤ 1000

/-- The blocks that the bag may turn. -/
def ofBag (p : Nat) (s : SL) : Nat → Prop := fun b => b = p ∨ s.v.ownBlock = some b

theorem SBag.lt {w : World} {p : Nat} {s : SL} {ms : List MG} (h : SBag w p s ms) : p < w.heap.size := (Array.getElem?_eq_some_iff.1 h.cell).1
theorem SBag.glt {w : World} {p : Nat} {s : SL} {ms : List MG} (h : SBag w p s ms) {g : Nat} (hg : s.v.ownBlock = some g) : g < w.heap.size := (h.own.lt g hg).2
theorem SBag.of {w w' : World} {p : Nat} {s : SL} {ms : List MG} (h : SBag w p s ms) (hb : ∀ b, ofBag p s b → w'.heap[b]? = w.heap[b]?) : SBag w' p s ms :=
  ⟨by rw [hb p (.inl rfl)]; exact h.cell, own_now h.own fun g hg => hb g (.inr hg), h.bare, h.ne, h.len⟩
theorem SBag.blt {w : World} {p : Nat} {s : SL} {ms : List MG} (h : SBag w p s ms) {b : Nat} (hb : ofBag p s b) : b < w.heap.size := hb.elim (fun e => e ▸ h.lt) h.glt
theorem SBag.upto {w w' : World} {p : Nat} {s : SL} {ms : List MG} (h : SBag w p s ms) (hu : Upto w.heap.size no w w') : SBag w' p s ms := h.of fun b hb => hu.block b (h.blt hb) fun h => h
theorem SBag.now {w w' : World} {p : Nat} {s : SL} {ms : List MG} {NL : Nat → Prop} (h : SBag w p s ms) (hn : Now NL w w') (hN : ∀ b, ofBag p s b → NL b) : SBag w' p s ms := h.of fun b hb => hn.block b (hN b hb)
theorem SBag.len_eq {w : World} {p : Nat} {s : SL} {ms : List MG} (h : SBag w p s ms) : s.n = ms.length := by
  rcases h.own.2 with ⟨hv, hn⟩ | ⟨g, cap, cur, hv, _⟩
  · simp only [SL.v, Value.slice.injEq] at hv
    omega
  · simp only [SL.v, Value.slice.injEq] at hv
    omega
theorem SBag.rows {w : World} {p : Nat} {s : SL} {ms : List MG} (h : SBag w p s ms) : RowsOf w 25 s (ms.map MG.l) :=
  .of_own (by simpa using h.own) (rows_len ms) (by have := h.len; simp; omega)
theorem SBag.cells {w : World} {p : Nat} {s : SL} {ms : List MG} (h : SBag w p s ms) : CellsAt w ⟨p, 0, none⟩ [s.v] ∧ p < w.heap.size := by
  refine ⟨⟨fun j v hj => ?_⟩, h.lt⟩
  cases j with
  | zero =>
    simp at hj
    subst hj
    simp [Addr.add, World.cell?, h.cell]
  | succ j => simp at hj

theorem c31 {w : World} : Calls Tryd.prog 31 #[] w fun e w2 => ∃ p, e = .returned (.pointer (some ⟨p, 0, none⟩)) ∧ w.heap.size ≤ p ∧ SBag w2 p SL.nil [] ∧ Below w.heap.size w w2 := by
  refine vc_31 w _ fun w0 hn0 w1 hn1 _ => ⟨w0.heap.size, rfl, hn0.size, ⟨?_, World.ownsRow_nil _ _ _ _, (fun m hm => by cases hm), (fun g hg => by simp [SL.nil, SL.v, Value.ownBlock] at hg), by simp⟩, ?_⟩
  · rw [hn1.block _ (.inr ⟨Nat.le_refl _, by omega⟩)]
    exact heap_new w0 _
  · exact toB (((Upto.now' (N := w.heap.size) hn0 fun _ h => h).trans (.alloc _ hn0.size)).trans (.now' hn1 fun _ h => .inl h))

theorem c33 {w : World} {p : Nat} {s : SL} {ms : List MG} (h : SBag w p s ms) : Calls Tryd.prog 33 #[.pointer (some ⟨p, 0, none⟩)] w (Ret w (.int .i64 ms.length)) :=
  vc_33 w p _ ⟨s, fun _ => h.cells, fun w1 hn _ => ⟨by rw [h.len_eq], hn.toBelow⟩⟩
end Go.Proofs.YtboedgnahmibcaaDoor
