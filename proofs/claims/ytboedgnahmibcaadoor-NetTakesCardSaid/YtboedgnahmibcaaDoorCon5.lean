/- Part of the proofs of this seat: lemmas about calls of functions of the program (Con5); each states its own conditions. -/
import Derived.Test.YtboedgnahmibcaaDoorCon4
set_option linter.unusedVariables false
set_option linter.unusedSimpArgs false
namespace Go.Proofs.YtboedgnahmibcaaDoor
open Go Go.Eng Go.RowKit Go.Pal

theorem c89 {w : World} (x : Int) : Calls Tryd.prog 89 #[.int .u8 x] w (Ret w (.bool (decide (x < 4)))) := vc_89 w x _ fun w0 hn _ => ⟨rfl, hn.toBelow⟩
theorem c90 {w : World} (x : Int) : Calls Tryd.prog 90 #[.int .u8 x] w (Ret w (.bool (decide (x ≥ 1) && decide (x ≤ 200)))) := vc_90 w x _ fun w0 hn _ => ⟨rfl, hn.toBelow⟩
theorem c91 {w : World} (x : Int) : Calls Tryd.prog 91 #[.int .u8 x] w (Ret w (.bool (decide (x > 10) && decide (x ≤ 14)))) := vc_91 w x _ fun w0 hn _ => ⟨rfl, hn.toBelow⟩

/-- What is a kind's own may be: iv, nv: of its vote, of its votes. -/
def holdsM (m : MG) (iv nv : Bool) : Bool :=
  if m.kd = 1 then ofReq m.rq m.fr else
  if m.kd = 2 ∨ m.kd = 3 ∨ m.kd = 4 then decide (m.vi ≤ 1048576) && decide (m.sq ≥ 1) && decide (m.sq ≤ 1073741824) && isReq m.rq else
  if m.kd = 5 ∨ m.kd = 10 then decide (m.sq ≤ 1073741824) else
  if m.kd = 6 then iv && m.vo.fr == m.fr && m.vo.ep == m.ep else
  if m.kd = 7 then decide (m.vi ≥ 1) && decide (m.vi ≤ 1048576) && nv else
  if m.kd = 8 ∨ m.kd = 9 then m.ct == m.ep else
  if m.kd = 11 then decide (m.sq ≤ 1073741824) && decide (m.pg ≤ 8) else
  if m.kd = 12 then decide (m.sq ≤ 1073741824) && (m.ss.n : Int) == 8 else
  if m.kd = 13 then decide (m.sq ≤ 1073741824) && decide (m.pg < 8) && decide ((m.ds.n : Int) ≤ 64) else
  if m.kd = 14 then decide (m.vi ≤ 1048576) && ofReq m.rq m.to else false

set_option maxHeartbeats 2000000 in
theorem c92 {w : World} (m : MG) (iv nv : Bool) (h6 : m.kd = 6 → ∀ w1, Now (fun b => b < w.heap.size) w w1 → CallsE Tryd.prog 48 #[m.vo.v] w1 fun e w2 => e = .returned (.bool iv) ∧ Below w1.heap.size w1 w2)
    (h7 : m.kd = 7 → ∀ w1, Now (fun b => b < w.heap.size) w w1 → CallsE Tryd.prog 138 #[.int .u32 m.vi, m.vs.v] w1 fun e w2 => e = .returned (.bool nv) ∧ Below w1.heap.size w1 w2) :
    Calls Tryd.prog 92 #[m.v] w (Ret w (.bool (holdsM m iv nv))) := by
  refine vc_92 w m _ ?_
  simp only [beq_iff_eq, beq_eq_false_iff_ne, ne_eq]
  repeat' (first
    | refine retOf (by assumption) ?_
    | apply And.intro
    | intro _
    | refine ⟨_, fun _ w1 hn => callsE (c137 _ _), ?_⟩
    | refine ⟨_, fun _ w1 hn => callsE (c64 _), ?_⟩
    | refine ⟨_, fun _ w1 hn => h6 (by assumption) w1 hn, ?_⟩
    | refine ⟨_, fun _ w1 hn => h7 (by assumption) w1 hn, ?_⟩
    | fail)
  all_goals first
    | (exfalso; omega)
    | (simp only [holdsM, *]; rfl)
    | (simp [holdsM, *]; done)
end Go.Proofs.YtboedgnahmibcaaDoor
