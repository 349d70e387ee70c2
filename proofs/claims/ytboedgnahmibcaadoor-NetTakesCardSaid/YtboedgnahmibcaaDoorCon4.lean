/- Part of the proofs of this seat: lemmas about calls of functions of the program (Con4); each states its own conditions. -/
import Derived.Test.YtboedgnahmibcaaDoorCon3
set_option linter.unusedVariables false
set_option linter.unusedSimpArgs false
namespace Go.Proofs.YtboedgnahmibcaaDoor
open Go Go.Eng Go.RowKit Go.Pal

def SL.nil : SL := ⟨none, 0, 0⟩
def VT.nil : VT := ⟨0, 0, 0, 0, SL.nil, SL.nil, SL.nil⟩
/-- What is a kind's own. -/
def ownM (m : MG) : MG :=
  let x : MG := ⟨m.kd, m.fr, m.to, m.ep, 0, 0, RQ.nil, 0, 0, 0, 0, VT.nil, SL.nil, SL.nil, SL.nil⟩
  if m.kd = 1 then { x with rq := m.rq } else
  if m.kd = 2 ∨ m.kd = 3 ∨ m.kd = 4 then { x with vi := m.vi, sq := m.sq, rq := m.rq } else
  if m.kd = 5 then { x with sq := m.sq, rt := m.rt } else
  if m.kd = 6 then { x with vo := m.vo } else
  if m.kd = 7 then { x with vi := m.vi, vs := m.vs } else
  if m.kd = 8 ∨ m.kd = 9 then { x with ct := m.ct } else
  if m.kd = 10 then { x with ct := m.ct, sq := m.sq } else
  if m.kd = 11 then { x with sq := m.sq, pg := m.pg } else
  if m.kd = 12 then { x with sq := m.sq, ss := m.ss } else
  if m.kd = 13 then { x with sq := m.sq, pg := m.pg, ds := m.ds } else
  if m.kd = 14 then { x with vi := m.vi, rq := m.rq, rs := m.rs } else x

theorem retOf {w w0 : World} {v v' : Value} (hn : Now (fun b => b < w.heap.size) w w0) (h : v = v') : Ret w v' (.returned v) w0 := ⟨by rw [h], hn.toBelow⟩

set_option maxHeartbeats 1000000 in
theorem c93 {w : World} (m : MG) : Calls Tryd.prog 93 #[m.v] w (Ret w (ownM m).v) := by
  refine vc_93 w m _ ?_
  simp only [beq_iff_eq, beq_eq_false_iff_ne, ne_eq]
  repeat' (first | refine retOf (by assumption) ?_ | apply And.intro | intro _)
  all_goals first
    | rfl
    | (exfalso; omega)
    | (simp only [ownM, *]; rfl)
    | (simp [ownM, *]; rfl)
    | (simp [ownM, *]; done)
end Go.Proofs.YtboedgnahmibcaaDoor
