/- Part of the proofs of this seat: lemmas about calls of functions of the program (Con13); each states its own conditions. -/
import Derived.Test.YtboedgnahmibcaaDoorCon12
import Derived.Test.YtboedgnahmibcaaDoorVcL30
set_option linter.unusedVariables false
set_option linter.unusedSimpArgs false
namespace Go.Proofs.YtboedgnahmibcaaDoor
open Go Go.Eng Go.RowKit Go.Pal

def andR (NL : Nat → Prop) (w w' : World) : Nat → Prop := fun b => NL b ∨ w.heap.size ≤ b ∧ b < w'.heap.size

/-- A bag in the midst of a call that began at w0. -/
structure BagAt (NL : Nat → Prop) (w0 w : World) (p : Nat) (s : SL) (ms : List MG) : Prop where
  bag : SBag w p s ms
  nl : ∀ b, ofBag p s b → NL b
  hi : ∀ b, ofBag p s b → w0.heap.size ≤ b
  up : Upto w0.heap.size no w0 w
  low : ∀ b, b < w0.heap.size → NL b

section
variable {NL : Nat → Prop} {w0 w w' : World} {p : Nat} {s s' : SL} {ms ms' : List MG}
theorem BagAt.now (h : BagAt NL w0 w p s ms) (hn : Now NL w w') : BagAt NL w0 w' p s ms :=
  ⟨h.bag.now hn h.nl, h.nl, h.hi, h.up.trans (.now' hn h.low), h.low⟩
theorem BagAt.quiet (h : BagAt NL w0 w p s ms) (hb : Below w.heap.size w w') : BagAt (andR NL w w') w0 w' p s ms :=
  ⟨h.bag.upto (.below hb), fun b hb => .inl (h.nl b hb), h.hi, mid_below h.up hb, fun b hb => .inl (h.low b hb)⟩
theorem BagAt.call (h : BagAt NL w0 w p s ms) (h1 : SBag w' p s' ms') (h2 : Upto w.heap.size (ofBag p s) w w') (h3 : Moved w s s') : BagAt (andR NL w w') w0 w' p s' ms' := by
  refine ⟨h1, fun b hb => ?_, fun b hb => ?_, h.up.trans (h2.mono h.up.size fun i hi hX => by have := h.hi i hX; omega), fun b hb => .inl (h.low b hb)⟩
  · rcases hb with rfl | hb
    · exact .inl (h.nl _ (.inl rfl))
    · rcases h3 b hb with e | e
      · exact .inl (h.nl b (.inr e))
      · exact .inr ⟨e, h1.glt hb⟩
  · rcases hb with rfl | hb
    · exact h.hi _ (.inl rfl)
    · rcases h3 b hb with e | e
      · exact h.hi b (.inr e)
      · exact Nat.le_trans h.up.size e
theorem BagAt.keeps (h : BagAt NL w0 w p s ms) (h2 : Upto w.heap.size (ofBag p s) w w') : KeepsE NL w w' := h2.keeps h.nl
theorem BagAt.below (h : BagAt NL w0 w p s ms) : Below w0.heap.size w0 w := toB h.up
theorem BagAt.new {w1 : World} (h1 : Now (fun b => b < w0.heap.size) w0 w1) (h2 : w1.heap.size ≤ p) (h3 : SBag w p SL.nil []) (h4 : Below w1.heap.size w1 w) : BagAt (fun b => b < w0.heap.size ∨ w1.heap.size ≤ b ∧ b < w.heap.size) w0 w p SL.nil [] := by
  have hb : ∀ b, ofBag p SL.nil b → b = p := fun b hb => hb.elim id fun e => by simp [SL.nil, SL.v, Value.ownBlock] at e
  exact ⟨h3, fun b h => by rw [hb b h]; exact .inr ⟨h2, h3.lt⟩, fun b h => by rw [hb b h]; exact Nat.le_trans h1.size h2, mid_below (.now' h1 fun _ h => h) h4, fun b h => .inl h⟩
end

def qM (t : Int) : MG := { MGz with kd := 9, to := t, ep := 1, ct := 1 }
theorem bare_z : Bare MGz := ⟨rfl, rfl, rfl, rfl, rfl, rfl⟩
theorem bare_q (t : Int) : Bare (qM t) := ⟨rfl, rfl, rfl, rfl, rfl, rfl⟩
theorem c41 {w : World} (t : Int) : Calls Tryd.prog 41 #[.int .u8 t] w (Ret w (qM t).v) := vc_41 w t _ fun w0 hn _ => ⟨rfl, hn.toBelow⟩
theorem isB_z : isB MGz = false := by decide
theorem isB_q (t : Int) (h0 : t < 4) : isB (qM t) = true := by
  simp [isB, isM, holdsM, qM, MGz, dOf, ownD, VD.nil, RQ.nil, VT.nil, h0]
end Go.Proofs.YtboedgnahmibcaaDoor
