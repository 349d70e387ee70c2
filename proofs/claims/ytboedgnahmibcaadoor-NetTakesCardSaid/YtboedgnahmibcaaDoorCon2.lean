/- Part of the proofs of this seat: lemmas about calls of functions of the program (Con2); each states its own conditions. -/
import Derived.Test.YtboedgnahmibcaaDoorCon1
import Derived.Test.YtboedgnahmibcaaDoorVc2
set_option linter.unusedVariables false
set_option linter.unusedSimpArgs false
namespace Go.Proofs.YtboedgnahmibcaaDoor
open Go Go.Eng Go.RowKit Go.Pal

def RQ.nil : RQ := ⟨0, 0, 0, 0, 0⟩
def isReq (r : RQ) : Bool := decide (r = RQ.nil) || (decide (1 ≤ r.c) && decide (r.c ≤ 4) && r.t != 0 && decide (1 ≤ r.k) && decide (r.k ≤ 3) && decide (r.y < 64) && (r.k != 2 || r.vl == 0))
theorem RQ.is0 (r : RQ) : (some (andO (r.c == (0 : Int)) (some (andO (r.t == (0 : Int)) (some (andO ((some (andO (r.k == (0 : Int)) (some (andO (r.y == (0 : Int)) (some (andO (r.vl == (0 : Int)) none)))))).getD true) none)))))).getD true = decide (r = RQ.nil) := by
  obtain ⟨a, b, c, d, e⟩ := r
  simp only [andO, Option.getD_some, RQ.nil, RQ.mk.injEq, Bool.decide_and, Bool.and_assoc]
  rfl

theorem c64 {w : World} (r : RQ) : Calls Tryd.prog 64 #[r.v] w (Ret w (.bool (isReq r))) := by
  refine vc_64 w r _ ?_
  rw [RQ.is0]
  refine ⟨fun h w0 hn _ => ⟨?_, hn.toBelow⟩, fun h w0 hn _ => ⟨?_, hn.toBelow⟩⟩
  · simp [isReq, h]
  · simp [isReq, h]

def ofReq (r : RQ) (i : Int) : Bool := isReq r && !decide (r = RQ.nil) && IntKind.u8.wrap (r.c + 10) == i
theorem callsE {k : Nat} {l : List Value} {w : World} {v : Value} (h : Calls Tryd.prog k l.toArray w (Ret w v)) : CallsE Tryd.prog k l.toArray w fun e w2 => e = .returned v ∧ Below w.heap.size w w2 := ⟨h⟩

theorem c137 {w : World} (r : RQ) (i : Int) : Calls Tryd.prog 137 #[r.v, .int .u8 i] w (Ret w (.bool (ofReq r i))) := by
  refine vc_137 w r i _ ?_
  rw [RQ.is0]
  exact ⟨isReq r, fun _ w1 hn => callsE (c64 r), fun w0 hn _ => ⟨rfl, hn.toBelow⟩⟩

/-- Votes as data. -/
structure VD where
  (fr ep vi lo : Int)
  ms : List MK
  ps : List EN
  qs : List EN
deriving DecidableEq
structure VoteIs (w : World) (v : VT) (d : VD) : Prop where
  fr : v.fr = d.fr
  ep : v.ep = d.ep
  vi : v.vi = d.vi
  lo : v.lo = d.lo
  ms : RowsOf w 2 v.ms (d.ms.map MK.l)
  ps : RowsOf w 7 v.ps (d.ps.map EN.l)
  qs : RowsOf w 7 v.qs (d.qs.map EN.l)
theorem VoteIs.now {w w' : World} {v : VT} {d : VD} (h : VoteIs w v d) (hb : Now (fun b => b < w.heap.size) w w') : VoteIs w' v d :=
  ⟨h.fr, h.ep, h.vi, h.lo, h.ms.now hb, h.ps.now hb, h.qs.now hb⟩

theorem c85 {w : World} {a b : VT} {x y : VD} (ha : VoteIs w a x) (hb : VoteIs w b y) : Calls Tryd.prog 85 #[a.v, b.v] w (Ret w (.bool (decide (x = y)))) := by
  refine vc_85 w a b _ ?_
  refine ⟨_, fun _ w1 hn => callsE (c135 (ha.ms.now hn) (hb.ms.now hn)), _, fun _ w1 hn => callsE (c136 (ha.ps.now hn) (hb.ps.now hn)), _, fun _ w1 hn => callsE (c136 (ha.qs.now hn) (hb.qs.now hn)), fun w1 hn _ => ⟨?_, hn.toBelow⟩⟩
  rw [ha.fr, ha.ep, ha.vi, ha.lo, hb.fr, hb.ep, hb.vi, hb.lo]
  obtain ⟨a1, a2, a3, a4, a5, a6, a7⟩ := x
  obtain ⟨b1, b2, b3, b4, b5, b6, b7⟩ := y
  simp only [VD.mk.injEq, Bool.decide_and, Bool.and_assoc]
  rfl
theorem c95 {w : World} (a b : EN) : Calls Tryd.prog 95 #[a.v, b.v] w (Ret w (.bool (decide (a.sq < b.sq)))) :=
  vc_95 w a b _ fun w0 hn _ => ⟨rfl, hn.toBelow⟩

/-- A slice of votes. -/
def VotesIs (w : World) (s : SL) (ds : List VD) : Prop := ∃ vs : List VT, RowsOf w 7 s (vs.map VT.l) ∧ vs.length = ds.length ∧ ∀ (i : Nat) (v : VT) (d : VD), vs[i]? = some v → ds[i]? = some d → VoteIs w v d
theorem VotesIs.now {w w' : World} {s : SL} {ds : List VD} (h : VotesIs w s ds) (hb : Now (fun b => b < w.heap.size) w w') : VotesIs w' s ds := by
  obtain ⟨vs, h1, h2, h3⟩ := h
  exact ⟨vs, h1.now hb, h2, fun i v d e1 e2 => (h3 i v d e1 e2).now hb⟩
theorem und43 : Tryd.prog.underlying 43 = some (.slice 42) := by kernel_rfl
theorem inf42 : ∃ i, Tryd.prog.info? 42 = some i ∧ i.size = 7 := by
  exact ⟨_, (by kernel_rfl : Tryd.prog.info? 42 = some ((Tryd.prog.info? 42).getD default)), by kernel_rfl⟩
theorem RowsOf.vote {w : World} {s : SL} {ds : List VD} (h : VotesIs w s ds) {i : Int} (h0 : 0 ≤ i) (hi : i < (s.n : Int)) :
    ∃ (a : Addr) (v : VT) (d : VD), PureRuns Tryd.prog (Instr.indexAt 43 s.v (.int .i64 i)) (.pointer (some (a.add (i.toNat * 7)))) ∧ ds[i.toNat]? = some d ∧ VoteIs w v d ∧ CellsAt w (a.add (i.toNat * 7)) v.l ∧ (a.add (i.toNat * 7)).block < w.heap.size := by
  obtain ⟨vs, h1, h2, h3⟩ := h
  obtain ⟨inf, hinf, hs⟩ := inf42
  obtain ⟨p, r, hp, hr, hpb, hpc, hpn⟩ := h1.get h0 hi
  simp only [List.getElem?_map, Option.map_eq_some_iff] at hr
  obtain ⟨v, hv, rfl⟩ := hr
  have hl : i.toNat < ds.length := by rw [← h2]; exact (List.getElem?_eq_some_iff.1 hv).1
  have ra := run_index und43 hinf hp h0 hpn
  rw [hs] at ra
  exact ⟨p, v, _, ra, List.getElem?_eq_getElem hl, h3 _ _ _ hv (List.getElem?_eq_getElem hl), hpc, hpb⟩
theorem VotesIs.len {w : World} {s : SL} {ds : List VD} (h : VotesIs w s ds) : s.n = ds.length ∧ s.n < 4611686018427387904 := by
  obtain ⟨vs, h1, h2, _⟩ := h
  have := h1.len
  simp only [List.length_map] at this
  exact ⟨by omega, h1.lt⟩

theorem c86 {w : World} {a b : SL} {xs ys : List VD} (ha : VotesIs w a xs) (hb : VotesIs w b ys) : Calls Tryd.prog 86 #[a.v, b.v, .func (.func 85) #[] #[]] w (Ret w (.bool (decide (xs = ys)))) := by
  obtain ⟨la, lt⟩ := ha.len; have lb := hb.len.1
  refine vc_86 w a b _ ?_
  simp only [true_and, and_true, forall_const]
  refine ⟨fun h w0 hn => ⟨?_, hn.toBelow⟩, fun h => ⟨fun i => 0 ≤ i ∧ i ≤ a.n ∧ a.n = b.n ∧ xs.take i.toNat = ys.take i.toNat, fun i => (a.n - i).toNat, ⟨0, ⟨Int.le_refl _, by omega, ?_, by simp⟩, rfl⟩, fun n ⟨h0, h1, h2, h3⟩ => ⟨fun hlt => ?_, fun hge w0 hn => ⟨?_, hn.toBelow⟩⟩⟩⟩
  · have : xs ≠ ys := fun e => by subst e; simp only [bne_iff_ne, ne_eq] at h; omega
    simp [this]
  · simp at h; omega
  · simp only [decide_eq_true_eq] at hlt
    obtain ⟨p, v, x, ra, hx, hv, hpc, hpb⟩ := RowsOf.vote ha h0 hlt
    obtain ⟨q, u, y, rb, hy, hu, hqc, hqb⟩ := RowsOf.vote hb h0 (by omega : n < (b.n : Int))
    refine ⟨_, ra, v, ⟨hpc, hpb⟩, _, rb, u, ⟨hqc, hqb⟩, _,
      fun w1 hn => callsE (c85 (hv.now hn) (hu.now hn)), fun h w7 hn => ⟨?_, hn.toBelow⟩, fun h => ⟨n + 1, ⟨by omega, by omega, h2, ?_⟩, ?_, ?_⟩⟩
    · have : xs ≠ ys := fun e => by subst e; rw [hx] at hy; obtain rfl := Option.some.inj hy; simp at h
      simp [this]
    · have : (n + 1).toNat = n.toNat + 1 := by omega
      rw [this]
      simp at h
      subst h
      exact take_succ_eq h3 hx hy
    · dsimp only; omega
    · rw [wrap64 (by omega) (by omega)]
  · simp only [decide_eq_false_iff_not] at hge
    have : n.toNat = xs.length := by omega
    rw [this, List.take_length] at h3
    have e : xs = ys := by rw [h3, List.take_of_length_le (by omega)]
    simp [e]
end Go.Proofs.YtboedgnahmibcaaDoor
