/- Part of the proofs of this seat: lemmas about calls of functions of the program (Con9); each states its own conditions. -/
import Derived.Test.YtboedgnahmibcaaDoorCon8
import Derived.Test.YtboedgnahmibcaaDoorApp
set_option linter.unusedVariables false
set_option linter.unusedSimpArgs false
namespace Go.Proofs.YtboedgnahmibcaaDoor
open Go Go.Eng Go.RowKit Go.Pal

noncomputable def i51 : TypeInfo := (Tryd.prog.info? 51).getD default
theorem info51 : Tryd.prog.info? 51 = some i51 := by kernel_rfl
theorem size51 : i51.size = 1 := by kernel_rfl
theorem mgz_size : MGz.v.cells.size = 25 := rfl
theorem mgv_size (m : MG) : m.v.cells.size = 25 := rfl
theorem mgv_cells (m : MG) : m.v.cells.toList = m.l := rfl

/-- Where a bag's row went: it is as it was, or new. -/
def Moved (w : World) (s s' : SL) : Prop := ∀ g, s'.v.ownBlock = some g → s.v.ownBlock = some g ∨ w.heap.size ≤ g
theorem Moved.refl (w : World) (s : SL) : Moved w s s := fun g h => .inl h

theorem flat_snoc (ms : List MG) (m : MG) : ((ms ++ [m]).map MG.l).flatten = (ms.map MG.l).flatten ++ m.l := by simp

/-- A message laid in. -/
def sent (ms : List MG) (m : MG) : Int × List MG := if isB m = false then (30, ms) else if 400 ≤ ms.length then (60, ms) else (0, ms ++ [m])

theorem c32 {w : World} {p : Nat} {s : SL} {ms : List MG} (h : SBag w p s ms) {m : MG} (hb : Bare m) (h6 : m.kd ≠ 6) (h7 : m.kd ≠ 7) (hl : ms.length < 1000) :
    Calls Tryd.prog 32 #[.pointer (some ⟨p, 0, none⟩), m.v] w fun e w2 => ∃ s', e = .returned (.int .i64 (sent ms m).1) ∧ SBag w2 p s' (sent ms m).2 ∧ Upto w.heap.size (ofBag p s) w w2 ∧ Moved w s s' := by
  have N0 : ∀ i, i < w.heap.size → i < w.heap.size := fun _ h => h
  refine vc_32 w p m _ ⟨isB m, fun _ w1 hn => callsE (c46b hb h6 h7), fun hB w4 hn _ => ?_, fun hB => ⟨s, fun _ => h.cells, fun hge w6 hn _ => ?_, fun hlt => ⟨rfl, s, fun _ => h.cells, fun w8 hn8 => ⟨_, ⟨cn67 hb⟩, fun e w11 ⟨he, hb11⟩ => ⟨m, he, Below.keeps hb11, ?_, fun w13 hn13 => ?_⟩⟩⟩⟩⟩
  · have hB : isB m = false := by simpa using hB
    have u := Upto.now' hn N0
    rw [show sent ms m = (30, ms) by simp [sent, hB]]
    exact ⟨s, rfl, h.upto u, u.mono (Nat.le_refl _) fun _ _ h => h.elim, .refl _ _⟩
  · have hB : isB m = true := by simpa using hB
    have hge : 400 ≤ ms.length := by rw [h.len_eq] at hge; simp at hge; omega
    have u := Upto.now' hn N0
    rw [show sent ms m = (60, ms) by simp [sent, hB, hge]]
    exact ⟨s, rfl, h.upto u, u.mono (Nat.le_refl _) fun _ _ h => h.elim, .refl _ _⟩
  · intro _
    have u : Upto w.heap.size no w w11 := mid_below (.now' hn8 N0) hb11
    have h11 := h.upto u
    exact ⟨h11.cells.1, .inl h.lt⟩
  · have hB : isB m = true := by simpa using hB
    have hlt' : ¬ 400 ≤ ms.length := by rw [h.len_eq] at hlt; simp at hlt; omega
    have u11 : Upto w.heap.size no w w11 := mid_below (.now' hn8 N0) hb11
    have u13 : Upto w.heap.size no w w13 := mid_now u11 hn13 fun _ h => .inl h
    have hbs := run_build1 (P := Tryd.prog) und51 info47 zero47 (by rw [size47]; rfl) (by rw [size47]; omega) (by rw [size47]; omega) (v := m.v) (by rw [size47]; rfl) w13
    refine ⟨⟨some ⟨w13.heap.size, 0, none⟩, 1, 1⟩, _, ⟨hbs⟩, Below.keeps ((Upto.alloc (X := no) _ (Nat.le_refl _)).toBelow fun _ _ h => h), ?_, fun w16 hn16 => ?_⟩
    · have u15 : Upto w.heap.size no w (w13.alloc (.cells m.v.cells 47)) := u13.trans (.alloc _ u13.size)
      exact fun _ => ⟨(h.upto u15).cells.1, .inl (.inl h.lt)⟩
    · have u15 : Upto w.heap.size no w (w13.alloc (.cells m.v.cells 47)) := u13.trans (.alloc _ u13.size)
      have u16 : Upto w.heap.size no w w16 := mid_now u15 hn16 fun _ h => .inl (.inl h)
      have h16 := h.upto u16
      have hnew : w16.heap[w13.heap.size]? = some (.cells m.v.cells 47 (0, 0)) := by
        rw [hn16.block _ (.inr ⟨Nat.le_refl _, by simp⟩)]
        exact heap_new w13 _
      obtain ⟨s', w18, hap, hown, hgr, hmv⟩ := append_own (P := Tryd.prog) (w := w16) (base := 0) und51 info47 zero47 (by rw [size47]; rfl) (by rw [size47]; omega) (s := s) (by rw [size47]; exact h16.own) (a := ⟨w13.heap.size, 0, none⟩) (m := 1) (c := 1) (news := m.l) (by omega) (by rw [size47]; simp [mg_len])
        (fun j u hj => by
          have hj' : m.v.cells[j]? = some u := by rw [← Array.getElem?_toList, mgv_cells]; exact hj
          simp [Addr.add_lit, World.cell?, hnew, hj']) (mg_one m) (by unfold maxLen; omega) (by have := bytes47; have : (ms.length + 1) * i47.bytes ≤ 1000 * 1000 := Nat.mul_le_mul (by omega) this; omega) (Nat.zero_le _) 51
      rw [size47] at hown
      have ga : ∀ i, s.v.ownBlock = some i → i < w.heap.size := fun i hi => h.glt hi
      have hcell18 : w18.heap[p]? = some (.cells #[s.v] 129 (0, 0)) := by
        rw [hgr.block p (Nat.lt_of_lt_of_le h.lt u16.size) (fun e => h.ne p e.symm rfl)]
        exact h16.cell
      have hst := stores_one (P := Tryd.prog) info51 size51 (NL := fun b => ((b < w.heap.size ∨ w8.heap.size ≤ b ∧ b < w11.heap.size) ∨ w13.heap.size ≤ b ∧ b < (w13.alloc (.cells m.v.cells 47)).heap.size) ∨ w16.heap.size ≤ b ∧ b < w18.heap.size) (off := 0) (v := s'.v) hcell18 (.inl (.inl (.inl h.lt))) rfl (by simp)
      refine ⟨s', w18, ⟨hap⟩, Upto.keeps (X := fun b => s.v.ownBlock = some b) (.grown hgr fun k e => e) (fun i hi => .inl (.inl (ga i hi))), _, hst, fun w20 hn20 _ => ?_⟩
      have hsz16 : w.heap.size ≤ w16.heap.size := u16.size
      have hsz18 : w16.heap.size ≤ w18.heap.size := hgr.size
      have hne : ∀ g, s'.v.ownBlock = some g → g ≠ p := fun g hg e => by
        rcases hmv g hg with h1 | h1
        · exact h.ne g h1 e
        · have := h.lt; omega
      have hap2 : ∀ g, s'.v.ownBlock = some g → w20.heap[g]? = w18.heap[g]? := fun g hg => by
        have hN : ((g < w.heap.size ∨ w8.heap.size ≤ g ∧ g < w11.heap.size) ∨ w13.heap.size ≤ g ∧ g < (w13.alloc (.cells m.v.cells 47)).heap.size) ∨ w16.heap.size ≤ g ∧ g < w18.heap.size := by
          rcases hmv g hg with h1 | h1
          · exact .inl (.inl (.inl (h.glt h1)))
          · exact .inr ⟨by omega, (hown.lt g hg).2⟩
        rw [hn20.block g hN]
        exact setRow_other _ _ _ _ (hne g hg)
      rw [show sent ms m = (0, ms ++ [m]) by simp [sent, hB, hlt']]
      refine ⟨s', rfl, ⟨?_, ?_, ?_, hne, by simp; omega⟩, ?_, fun g hg => ?_⟩
      · rw [hn20.block p (.inl (.inl (.inl h.lt)))]
        have := setRow_heap w18 p #[s.v] (#[s.v].setIfInBounds 0 s'.v) 129 (0, 0) hcell18
        exact this
      · rw [flat_snoc]
        simpa using own_now hown hap2
      · intro x hx
        rcases List.mem_append.1 hx with hx | hx
        · exact h.bare x hx
        · obtain rfl : x = m := by simpa using hx
          exact hb
      · have v1 : Upto w.heap.size (ofBag p s) w w16 := u16.mono (Nat.le_refl _) fun _ _ h => h.elim
        have v2 : Upto w.heap.size (ofBag p s) w16 w18 := (Upto.grown (X := ofBag p s) hgr fun k e => .inr e).mono hsz16 fun _ _ h => h
        have v3 : Upto w.heap.size (ofBag p s) w18 (w18.setRow p (#[s.v].setIfInBounds 0 s'.v)) := .setRow _ (.inr (.inl rfl))
        exact ((v1.trans v2).trans v3).trans (.now hn20 fun i hi _ => .inl (.inl (.inl hi)))
      · rcases hmv g hg with h1 | h1
        · exact .inl h1
        · exact .inr (by omega)
end Go.Proofs.YtboedgnahmibcaaDoor
