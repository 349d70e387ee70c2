/- Part of the proofs of this seat: lemmas about calls of functions of the program (Con11); each states its own conditions. -/
import Derived.Test.YtboedgnahmibcaaDoorCon10
set_option linter.unusedVariables false
set_option linter.unusedSimpArgs false
namespace Go.Proofs.YtboedgnahmibcaaDoor
open Go Go.Eng Go.RowKit Go.Pal

theorem upto_weak {N : Nat} {X : Nat → Prop} {w w' : World} (h : Upto N no w w') : Upto N X w w' := h.mono (Nat.le_refl _) fun _ _ h => h.elim

theorem c35a {w : World} {p : Nat} {s : SL} {ms : List MG} (h : SBag w p s ms) {k : Nat} {m : MG} (hk : ms[k]? = some m) :
    Calls Tryd.prog 35 #[.pointer (some ⟨p, 0, none⟩), .int .i64 (k : Int)] w fun e w2 => ∃ s' : SL, e = .returned (.tuple #[m.v, .int .i64 0]) ∧ SBag w2 p s' (ms.eraseIdx k) ∧ Upto w.heap.size (ofBag p s) w w2 ∧ Moved w s s' := by
  have hkl : k < ms.length := (List.getElem?_eq_some_iff.1 hk).1
  have hlen := h.len
  refine vc_35 w p k _ fun w0 hn0 => ?_
  have u0 : Upto w.heap.size no w w0 := .now' hn0 fun _ h => h
  have h0 := h.upto u0
  refine ⟨_, ⟨c34a h0 hk⟩, fun e w3 ⟨he, hb⟩ => ⟨m, true, he, Below.keeps hb, fun hx => by simp at hx, fun _ => ?_⟩⟩
  have u3 : Upto w.heap.size no w w3 := mid_below u0 hb
  have h3 := h.upto u3
  refine ⟨s, fun _ => ⟨h3.cells.1, .inl h.lt⟩, fun w8 hn8 => ?_⟩
  have u8 : Upto w.heap.size no w w8 := mid_now u3 hn8 fun _ h => .inl h
  have h8 := h.upto u8
  have hw : IntKind.i64.wrap ((k : Int) + 1) = (k : Int) + 1 := wrap64 (by omega) (by omega)
  rw [hw]
  refine ⟨_, ⟨c68 h8.own hlen hkl⟩, fun e w11 ⟨s', he, hown, hob, hup⟩ => ⟨s', he, hup.keeps fun i hi => .inl (h.glt hi), ?_⟩⟩
  have hcell11 : w11.heap[p]? = some (.cells #[s.v] 129 (0, 0)) := by
    rw [hup.block p (Nat.lt_of_lt_of_le h.lt u8.size) (fun e => h.ne p e rfl)]
    exact h8.cell
  have hst := stores_one (P := Tryd.prog) info51 size51 (NL := fun b => (b < w.heap.size ∨ w0.heap.size ≤ b ∧ b < w3.heap.size) ∨ w8.heap.size ≤ b ∧ b < w11.heap.size) (off := 0) (v := s'.v) hcell11 (.inl (.inl h.lt)) rfl (by simp)
  refine ⟨_, hst, fun w14 hn14 _ => ⟨s', rfl, ⟨?_, ?_, fun x hx => h.bare x (List.mem_of_mem_eraseIdx hx), fun g hg => h.ne g (hob ▸ hg), by have := List.length_eraseIdx_le (l := ms) k; omega⟩, ?_, fun g hg => .inl (hob ▸ hg)⟩⟩
  · rw [hn14.block p (.inl (.inl h.lt))]
    exact setRow_heap w11 p #[s.v] (#[s.v].setIfInBounds 0 s'.v) 129 (0, 0) hcell11
  · rw [List.length_eraseIdx_of_lt hkl]
    refine own_now hown fun g hg => ?_
    rw [hob] at hg
    rw [hn14.block g (.inl (.inl (h.glt hg)))]
    exact setRow_other _ _ _ _ (h.ne g hg)
  · have v2 : Upto w.heap.size (ofBag p s) w8 w11 := hup.mono u8.size fun i _ hi => .inr hi
    exact (((upto_weak u8).trans v2).trans (.setRow _ (.inr (.inl rfl)))).trans (.now hn14 fun i hi _ => .inl (.inl hi))

theorem c35b {w : World} {p : Nat} {s : SL} {ms : List MG} (h : SBag w p s ms) {i : Int} (hi : i < 0 ∨ (ms.length : Int) ≤ i) :
    Calls Tryd.prog 35 #[.pointer (some ⟨p, 0, none⟩), .int .i64 i] w (Ret w (.tuple #[MGz.v, .int .i64 61])) := by
  refine vc_35 w p i _ fun w0 hn0 => ?_
  have u0 : Upto w.heap.size no w w0 := .now' hn0 fun _ h => h
  have h0 := h.upto u0
  refine ⟨_, ⟨c34b h0 hi⟩, fun e w3 ⟨he, hb⟩ => ⟨MGz, false, he, Below.keeps hb, fun hx w6 hn6 _ => ⟨rfl, ?_⟩, fun hx => by simp at hx⟩⟩
  exact toB (mid_now (mid_below u0 hb) hn6 fun _ h => .inl h)

theorem c36a {w : World} {p : Nat} {s : SL} {ms : List MG} (h : SBag w p s ms) {k : Nat} (hk : k < ms.length) :
    Calls Tryd.prog 36 #[.pointer (some ⟨p, 0, none⟩), .int .i64 (k : Int)] w fun e w2 => ∃ s' : SL, e = .returned (.int .i64 0) ∧ SBag w2 p s' (ms.eraseIdx k) ∧ Upto w.heap.size (ofBag p s) w w2 ∧ Moved w s s' := by
  refine vc_36 w p k _ fun w0 hn0 => ?_
  have u0 : Upto w.heap.size no w w0 := .now' hn0 fun _ h => h
  have h0 := h.upto u0
  refine ⟨_, ⟨c35a h0 (List.getElem?_eq_getElem hk)⟩, fun e w3 ⟨s', he, hbag, hup, hmv⟩ => ⟨_, 0, he, hup.keeps fun i hi => h.blt hi, fun w6 hn6 _ => ?_⟩⟩
  have hs' : ∀ b, ofBag p s' b → b < w.heap.size ∨ w0.heap.size ≤ b ∧ b < w3.heap.size := fun b hb => by
    rcases hb with rfl | hb
    · exact .inl h.lt
    · rcases hmv b hb with h1 | h1
      · exact .inl (h.glt h1)
      · exact .inr ⟨h1, hbag.glt hb⟩
  refine ⟨s', rfl, hbag.now hn6 hs', ?_, fun g hg => (hmv g hg).imp id fun h => Nat.le_trans u0.size h⟩
  exact ((upto_weak u0).trans (hup.mono u0.size fun _ _ h => h)).trans (.now hn6 fun i hi _ => .inl hi)

theorem c36b {w : World} {p : Nat} {s : SL} {ms : List MG} (h : SBag w p s ms) {i : Int} (hi : i < 0 ∨ (ms.length : Int) ≤ i) :
    Calls Tryd.prog 36 #[.pointer (some ⟨p, 0, none⟩), .int .i64 i] w (Ret w (.int .i64 61)) := by
  refine vc_36 w p i _ fun w0 hn0 => ?_
  have u0 : Upto w.heap.size no w w0 := .now' hn0 fun _ h => h
  refine ⟨_, ⟨c35b (h.upto u0) hi⟩, fun e w3 ⟨he, hb⟩ => ⟨MGz, 61, he, Below.keeps hb, fun w6 hn6 _ => ⟨rfl, ?_⟩⟩⟩
  exact toB (mid_now (mid_below u0 hb) hn6 fun _ h => .inl h)

theorem c37a {w : World} {p : Nat} {s : SL} {ms : List MG} (h : SBag w p s ms) (hl : ms.length < 1000) {k : Nat} {m : MG} (hk : ms[k]? = some m) (h6 : m.kd ≠ 6) (h7 : m.kd ≠ 7) :
    Calls Tryd.prog 37 #[.pointer (some ⟨p, 0, none⟩), .int .i64 (k : Int)] w fun e w2 => ∃ s' : SL, e = .returned (.int .i64 (sent ms m).1) ∧ SBag w2 p s' (sent ms m).2 ∧ Upto w.heap.size (ofBag p s) w w2 ∧ Moved w s s' := by
  refine vc_37 w p k _ fun w0 hn0 => ?_
  have u0 : Upto w.heap.size no w w0 := .now' hn0 fun _ h => h
  refine ⟨_, ⟨c34a (h.upto u0) hk⟩, fun e w3 ⟨he, hb⟩ => ⟨m, true, he, Below.keeps hb, fun hx => by simp at hx, fun _ w7 hn7 => ?_⟩⟩
  have u7 : Upto w.heap.size no w w7 := mid_now (mid_below u0 hb) hn7 fun _ h => .inl h
  refine ⟨_, ⟨c32 (h.upto u7) (h.bare m (List.mem_of_getElem? hk)) h6 h7 hl⟩, fun e w10 ⟨s', he, hbag, hup, hmv⟩ => ⟨_, he, hup.keeps fun i hi => .inl (h.blt hi), fun w12 hn12 _ => ?_⟩⟩
  have hs' : ∀ b, ofBag p s' b → (b < w.heap.size ∨ w0.heap.size ≤ b ∧ b < w3.heap.size) ∨ w7.heap.size ≤ b ∧ b < w10.heap.size := fun b hb => by
    rcases hb with rfl | hb
    · exact .inl (.inl h.lt)
    · rcases hmv b hb with h1 | h1
      · exact .inl (.inl (h.glt h1))
      · exact .inr ⟨h1, hbag.glt hb⟩
  refine ⟨s', rfl, hbag.now hn12 hs', ?_, fun g hg => (hmv g hg).imp id fun h => Nat.le_trans u7.size h⟩
  exact ((upto_weak u7).trans (hup.mono u7.size fun _ _ h => h)).trans (.now hn12 fun i hi _ => .inl (.inl hi))

theorem c37b {w : World} {p : Nat} {s : SL} {ms : List MG} (h : SBag w p s ms) {i : Int} (hi : i < 0 ∨ (ms.length : Int) ≤ i) :
    Calls Tryd.prog 37 #[.pointer (some ⟨p, 0, none⟩), .int .i64 i] w (Ret w (.int .i64 61)) := by
  refine vc_37 w p i _ fun w0 hn0 => ?_
  have u0 : Upto w.heap.size no w w0 := .now' hn0 fun _ h => h
  refine ⟨_, ⟨c34b (h.upto u0) hi⟩, fun e w3 ⟨he, hb⟩ => ⟨MGz, false, he, Below.keeps hb, fun _ w6 hn6 _ => ⟨rfl, ?_⟩, fun hx => by simp at hx⟩⟩
  exact toB (mid_now (mid_below u0 hb) hn6 fun _ h => .inl h)
end Go.Proofs.YtboedgnahmibcaaDoor
