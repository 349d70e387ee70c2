/- Part of the proofs of this seat: lemmas about calls of functions of the program (Con3); each states its own conditions. -/
import Derived.Test.YtboedgnahmibcaaDoorCon2
set_option linter.unusedVariables false
set_option linter.unusedSimpArgs false
namespace Go.Proofs.YtboedgnahmibcaaDoor
open Go Go.Eng Go.RowKit Go.Pal

/-- Messages as data. -/
structure MD where
  (kd fr to ep vi sq : Int)
  rq : RQ
  (rt ct pg rs : Int)
  vo : VD
  vs : List VD
  ss : List Int
  ds : List Int
deriving DecidableEq
structure MsgIs (w : World) (m : MG) (d : MD) : Prop where
  kd : m.kd = d.kd
  fr : m.fr = d.fr
  to : m.to = d.to
  ep : m.ep = d.ep
  vi : m.vi = d.vi
  sq : m.sq = d.sq
  rq : m.rq = d.rq
  rt : m.rt = d.rt
  ct : m.ct = d.ct
  pg : m.pg = d.pg
  rs : m.rs = d.rs
  vo : VoteIs w m.vo d.vo
  vs : VotesIs w m.vs d.vs
  ss : RowsOf w 1 m.ss (d.ss.map l64)
  ds : RowsOf w 1 m.ds (d.ds.map l8)
theorem MsgIs.now {w w' : World} {m : MG} {d : MD} (h : MsgIs w m d) (hb : Now (fun b => b < w.heap.size) w w') : MsgIs w' m d :=
  { h with vo := h.vo.now hb, vs := h.vs.now hb, ss := h.ss.now hb, ds := h.ds.now hb }

theorem c84 {w : World} (m : MG) : Calls Tryd.prog 84 #[m.v] w (Ret w (.agg #[.int .u8 m.kd, .int .u8 m.fr, .int .u8 m.to, .int .u8 m.ep, .int .u8 m.ct, .int .u8 m.pg, .int .u32 m.vi, .int .u32 m.sq, .int .u32 m.rs, .int .u8 m.rq.c, .int .u32 m.rq.t, .int .u8 m.rq.k, .int .u8 m.rq.y, .int .u16 m.rq.vl, .int .u64 m.rt])) :=
  vc_84 w m _ fun w0 hn _ => ⟨rfl, hn.toBelow⟩

theorem c45 {w : World} {a b : MG} {x y : MD} (ha : MsgIs w a x) (hb : MsgIs w b y) : Calls Tryd.prog 45 #[a.v, b.v] w (Ret w (.bool (decide (x = y)))) := by
  refine vc_45 w a b _ ?_
  refine ⟨_, _, _, _, _, _, _, _, _, _, _, _, _, _, _, fun _ w1 hn => callsE (c84 a), _, _, _, _, _, _, _, _, _, _, _, _, _, _, _, fun _ w1 hn => callsE (c84 b), _, fun _ w1 hn => callsE (c85 (ha.vo.now hn) (hb.vo.now hn)), _, fun _ w1 hn => callsE (c86 (ha.vs.now hn) (hb.vs.now hn)), _, fun _ w1 hn => callsE (c87 (ha.ss.now hn) (hb.ss.now hn)), _, fun _ w1 hn => callsE (c88 (ha.ds.now hn) (hb.ds.now hn)), rfl, fun w1 hn _ => ⟨?_, hn.toBelow⟩⟩
  congr 2
  rw [ha.kd, ha.fr, ha.to, ha.ep, ha.vi, ha.sq, ha.rq, ha.rt, ha.ct, ha.pg, ha.rs, hb.kd, hb.fr, hb.to, hb.ep, hb.vi, hb.sq, hb.rq, hb.rt, hb.ct, hb.pg, hb.rs]
  rw [Bool.eq_iff_iff]
  obtain ⟨a1, a2, a3, a4, a5, a6, ⟨r1, r2, r3, r4, r5⟩, a7, a8, a9, a10, a11, a12, a13, a14⟩ := x
  obtain ⟨b1, b2, b3, b4, b5, b6, ⟨s1, s2, s3, s4, s5⟩, b7, b8, b9, b10, b11, b12, b13, b14⟩ := y
  simp only [andO, Option.getD_some, Bool.and_eq_true, beq_iff_eq, decide_eq_true_eq, MD.mk.injEq, RQ.mk.injEq]
  constructor
  · intro h; simp only [h, and_self]
  · intro h; simp only [h, and_self]
end Go.Proofs.YtboedgnahmibcaaDoor
