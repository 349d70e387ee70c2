/- Part of the proofs of this seat: lemmas about calls of functions of the program (Con6); each states its own conditions. -/
import Derived.Test.YtboedgnahmibcaaDoorCon5
set_option linter.unusedVariables false
set_option linter.unusedSimpArgs false
namespace Go.Proofs.YtboedgnahmibcaaDoor
open Go Go.Eng Go.RowKit Go.Pal

def VD.nil : VD := ⟨0, 0, 0, 0, [], [], []⟩
/-- What is a kind's own. -/
def ownD (m : MD) : MD :=
  let x : MD := ⟨m.kd, m.fr, m.to, m.ep, 0, 0, RQ.nil, 0, 0, 0, 0, VD.nil, [], [], []⟩
  if m.kd = 1 then { x with rq := m.rq } else
  if m.kd = 2 ∨ m.kd = 3 ∨ m.kd = 4 then { x with vi := m.vi, sq := m.sq, rq := m.rq } else
  if m.kd = 5 then { x with sq := m.sq, rt := m.rt } else
  if m.kd = 6 then { x with vo := m.vo } else
  if m.kd = 7 then { x with vi := m.vi, vs := m.vs } else
  if m.kd = 8 ∨ m.kd = 9 then { x with ct := m.ct } else
  if m.kd = 10 then { x with ct := m.ct, sq := m.sq } else
  if m.kd = 11 then { x with sq := m.sq, pg := m.pg } else
  if m.kd = 12 then { x with sq := m.sq, ss := m.ss } else
  if m.kd = 13 then { x with sq := m.sq, pg := m.pg, ds := m.ds } else
  if m.kd = 14 then { x with vi := m.vi, rq := m.rq, rs := m.rs } else x

theorem rows_nil (w : World) (sz : Nat) : RowsOf w sz SL.nil [] := ⟨rfl, by decide, fun i r h => by simp at h⟩
theorem vt_nil (w : World) : VoteIs w VT.nil VD.nil := ⟨rfl, rfl, rfl, rfl, rows_nil _ _, rows_nil _ _, rows_nil _ _⟩
theorem vs_nil (w : World) : VotesIs w SL.nil [] := ⟨[], rows_nil _ _, rfl, fun i v d h => by simp at h⟩

theorem is_ite {w : World} {c : Prop} [Decidable c] {a b : MG} {x y : MD} (h1 : c → MsgIs w a x) (h2 : ¬ c → MsgIs w b y) : MsgIs w (if c then a else b) (if c then x else y) := by
  split
  · exact h1 ‹_›
  · exact h2 ‹_›
theorem own_is {w : World} {m : MG} {x : MD} (h : MsgIs w m x) : MsgIs w (ownM m) (ownD x) := by
  unfold ownM ownD
  simp only
  rw [← h.kd]
  repeat' refine is_ite (fun _ => ?_) (fun _ => ?_)
  all_goals exact ⟨rfl, h.fr, h.to, h.ep, by first | exact h.vi | rfl, by first | exact h.sq | rfl, by first | exact h.rq | rfl, by first | exact h.rt | rfl, by first | exact h.ct | rfl, by first | exact h.pg | rfl, by first | exact h.rs | rfl,
    by first | exact h.vo | exact vt_nil w, by first | exact h.vs | exact vs_nil w, by first | exact h.ss | exact rows_nil w 1, by first | exact h.ds | exact rows_nil w 1⟩

/-- Whether a message may be. -/
def isM (m : MG) (x : MD) (iv nv : Bool) : Bool :=
  (if m.kd = 1 then (decide (m.fr > 10) && decide (m.fr ≤ 14)) && m.ep == 0 else decide (m.fr < 4) && (decide (m.ep ≥ 1) && decide (m.ep ≤ 200))) &&
  (if m.kd = 14 then decide (m.to > 10) && decide (m.to ≤ 14) else decide (m.to < 4)) && holdsM m iv nv && decide (x = ownD x)

set_option maxHeartbeats 2000000 in
theorem c46 {w : World} {m : MG} {x : MD} (hm : MsgIs w m x) (iv nv : Bool) (h6 : m.kd = 6 → ∀ w1, Now (fun b => b < w.heap.size) w w1 → CallsE Tryd.prog 48 #[m.vo.v] w1 fun e w2 => e = .returned (.bool iv) ∧ Below w1.heap.size w1 w2)
    (h7 : m.kd = 7 → ∀ w1, Now (fun b => b < w.heap.size) w w1 → CallsE Tryd.prog 138 #[.int .u32 m.vi, m.vs.v] w1 fun e w2 => e = .returned (.bool nv) ∧ Below w1.heap.size w1 w2) :
    Calls Tryd.prog 46 #[m.v] w (Ret w (.bool (isM m x iv nv))) := by
  refine vc_46 w m _ ?_
  simp only [beq_iff_eq, beq_eq_false_iff_ne, ne_eq, true_and]
  have now2 : ∀ {w1 w2 : World}, Now (fun b => b < w.heap.size) w w1 → Now (fun b => b < w1.heap.size) w1 w2 → Now (fun b => b < w.heap.size) w w2 := fun h1 h2 =>
    ⟨h2.os.trans h1.os, h2.tape.trans h1.tape, h2.output.trans h1.output, Nat.le_trans h1.size h2.size, h1.lt, fun b hb => by
      rw [h2.block b (Nat.lt_of_lt_of_le hb h1.size)]; exact h1.block b hb⟩
  have e2 : m.kd = 1 → ¬ m.kd = 14 → isM m x iv nv = ((decide (m.fr > 10) && decide (m.fr ≤ 14)) && m.ep == 0 && decide (m.to < 4) && holdsM m iv nv && decide (x = ownD x)) := fun a b => by simp only [isM, if_pos a, if_neg b]
  have e3 : ¬ m.kd = 1 → m.kd = 14 → isM m x iv nv = (decide (m.fr < 4) && (decide (m.ep ≥ 1) && decide (m.ep ≤ 200)) && (decide (m.to > 10) && decide (m.to ≤ 14)) && holdsM m iv nv && decide (x = ownD x)) := fun a b => by simp only [isM, if_neg a, if_pos b]
  have e4 : ¬ m.kd = 1 → ¬ m.kd = 14 → isM m x iv nv = (decide (m.fr < 4) && (decide (m.ep ≥ 1) && decide (m.ep ≤ 200)) && decide (m.to < 4) && holdsM m iv nv && decide (x = ownD x)) := fun a b => by simp only [isM, if_neg a, if_neg b]
  generalize isM m x iv nv = z at *
  repeat' (first
    | refine retOf (by assumption) ?_
    | apply And.intro
    | intro _
    | refine ⟨_, fun _ w1 hn => callsE (c89 _), ?_⟩
    | refine ⟨_, fun _ w1 hn => callsE (c90 _), ?_⟩
    | refine ⟨_, fun _ w1 hn => callsE (c91 _), ?_⟩
    | refine ⟨_, fun _ w1 hn => callsE (c92 m iv nv (fun e w2 hn2 => h6 e w2 (now2 hn hn2)) (fun e w2 hn2 => h7 e w2 (now2 hn hn2))), ?_⟩
    | refine ⟨ownM m, fun _ w1 hn => callsE (c93 m), ?_⟩
    | refine ⟨_, fun _ w1 hn => callsE (c45 (hm.now hn) ((own_is hm).now hn)), ?_⟩
    | fail)
  all_goals first
    | (exfalso; omega)
    | exact congrArg Value.bool (e2 ‹_› ‹_›).symm
    | exact congrArg Value.bool (e3 ‹_› ‹_›).symm
    | exact congrArg Value.bool (e4 ‹_› ‹_›).symm
end Go.Proofs.YtboedgnahmibcaaDoor
