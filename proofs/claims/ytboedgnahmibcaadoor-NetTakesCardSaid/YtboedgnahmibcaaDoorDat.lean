/-
  The data of the messages as numbers and slices, and the values that hold them.
-/
import Derived.Test.YtboedgnahmibcaaDoorEngI
namespace Go.Pal
open Go Go.Eng Go.RowKit

structure MK where
  (sq rt : Int)
deriving DecidableEq
structure RQ where
  (c t k y vl : Int)
deriving DecidableEq
structure EN where
  (sq vi : Int)
  rq : RQ
deriving DecidableEq
structure VT where
  (fr ep vi lo : Int)
  (ms ps qs : SL)
structure MG where
  (kd fr to ep vi sq : Int)
  rq : RQ
  (rt ct pg rs : Int)
  vo : VT
  (vs ss ds : SL)

def RQ.l (r : RQ) : List Value := [.int .u8 r.c, .int .u32 r.t, .int .u8 r.k, .int .u8 r.y, .int .u16 r.vl]
def MK.l (m : MK) : List Value := [.int .u32 m.sq, .int .u64 m.rt]
def EN.l (e : EN) : List Value := .int .u32 e.sq :: .int .u32 e.vi :: e.rq.l
def VT.l (v : VT) : List Value := [.int .u8 v.fr, .int .u8 v.ep, .int .u32 v.vi, .int .u32 v.lo, v.ms.v, v.ps.v, v.qs.v]
def MG.l (m : MG) : List Value := [.int .u8 m.kd, .int .u8 m.fr, .int .u8 m.to, .int .u8 m.ep, .int .u32 m.vi, .int .u32 m.sq] ++ m.rq.l ++ [.int .u64 m.rt, .int .u8 m.ct, .int .u8 m.pg, .int .u32 m.rs] ++ m.vo.l ++ [m.vs.v, m.ss.v, m.ds.v]
def RQ.v (r : RQ) : Value := .agg r.l.toArray
def MK.v (r : MK) : Value := .agg r.l.toArray
def EN.v (r : EN) : Value := .agg r.l.toArray
def VT.v (r : VT) : Value := .agg r.l.toArray
def MG.v (r : MG) : Value := .agg r.l.toArray
/-- An operation. -/
structure OP where
  (k y vl : Int)
deriving DecidableEq
def OP.l (o : OP) : List Value := [.int .u8 o.k, .int .u8 o.y, .int .u16 o.vl]
def OP.v (o : OP) : Value := .agg o.l.toArray
/-- An answer. -/
structure AN where
  rq : RQ
  rs : Int
deriving DecidableEq
def AN.l (a : AN) : List Value := a.rq.l ++ [.int .u32 a.rs]
def AN.v (a : AN) : Value := .agg a.l.toArray
def rMG : Rcd := ⟨MG, MG.l, 25, fun _ => rfl⟩
def rVT : Rcd := ⟨VT, VT.l, 7, fun _ => rfl⟩
def rEN : Rcd := ⟨EN, EN.l, 7, fun _ => rfl⟩
def rMK : Rcd := ⟨MK, MK.l, 2, fun _ => rfl⟩
def rRQ : Rcd := ⟨RQ, RQ.l, 5, fun _ => rfl⟩
def rOP : Rcd := ⟨OP, OP.l, 3, fun _ => rfl⟩
def rAN : Rcd := ⟨AN, AN.l, 6, fun _ => rfl⟩
end Go.Pal
