/- Part of the proofs of this seat: lemmas about calls of functions of the program (Con16); each states its own conditions. -/
import Derived.Test.YtboedgnahmibcaaDoorCon15
import Derived.Test.YtboedgnahmibcaaDoorVcL6
set_option linter.unusedVariables false
set_option linter.unusedSimpArgs false
namespace Go.Proofs.YtboedgnahmibcaaDoor
open Go Go.Eng Go.RowKit Go.Pal

theorem und78 : Tryd.prog.underlying 78 = some (.slice 27) := by kernel_rfl
noncomputable def i27 : TypeInfo := (Tryd.prog.info? 27).getD default
theorem info27 : Tryd.prog.info? 27 = some i27 := by kernel_rfl
theorem size27 : i27.size = 1 := by kernel_rfl
theorem zero27 : i27.zero = some (.int .u32 0) := by kernel_rfl
theorem bytes27 : i27.bytes ≤ 1000 := of_decide_eq_true (by kernel_rfl)
def l32 (n : Int) : List Value := [.int .u32 n]
noncomputable def i5 : TypeInfo := (Tryd.prog.info? 5).getD default
theorem info5 : Tryd.prog.info? 5 = some i5 := by kernel_rfl
theorem size5 : i5.size = 1 := by kernel_rfl

/-- A bag beside another slice of one's own. -/
structure TwoAt (NL : Nat → Prop) (w0 w : World) (p : Nat) (s : SL) (ms : List MG) (m : SL) (qs : List Int) : Prop where
  bag : BagAt NL w0 w p s ms
  own : w.ownsRow w0.heap.size 27 1 m.v qs.length (qs.map (Value.int .u32))
  nl : ∀ g, m.v.ownBlock = some g → NL g
  ne : ∀ g, m.v.ownBlock = some g → ¬ ofBag p s g
section
variable {NL : Nat → Prop} {w0 w w' : World} {p : Nat} {s s' : SL} {ms ms' : List MG} {m m' : SL} {qs qs' : List Int}
theorem TwoAt.now (h : TwoAt NL w0 w p s ms m qs) (hn : Now NL w w') : TwoAt NL w0 w' p s ms m qs :=
  ⟨h.bag.now hn, own_now h.own fun g hg => hn.block g (h.nl g hg), h.nl, h.ne⟩
theorem TwoAt.call (h : TwoAt NL w0 w p s ms m qs) (h1 : SBag w' p s' ms') (h2 : Upto w.heap.size (ofBag p s) w w') (h3 : Moved w s s') : TwoAt (andR NL w w') w0 w' p s' ms' m qs := by
  have hlt : ∀ g, m.v.ownBlock = some g → g < w.heap.size := fun g hg => (h.own.lt g hg).2
  refine ⟨h.bag.call h1 h2 h3, own_now h.own fun g hg => h2.block g (hlt g hg) (h.ne g hg), fun g hg => .inl (h.nl g hg), fun g hg hb => ?_⟩
  rcases hb with rfl | hb
  · exact h.ne _ hg (.inl rfl)
  · rcases h3 g hb with e | e
    · exact h.ne g hg (.inr e)
    · have := hlt g hg; omega
theorem TwoAt.quiet (h : TwoAt NL w0 w p s ms m qs) (hb : Below w.heap.size w w') : TwoAt (andR NL w w') w0 w' p s ms m qs :=
  ⟨h.bag.quiet hb, own_now h.own fun g hg => hb.block g (h.own.lt g hg).2, fun g hg => .inl (h.nl g hg), h.ne⟩
theorem TwoAt.other (h : TwoAt NL w0 w p s ms m qs) (hu : Upto w.heap.size (fun b => m.v.ownBlock = some b) w w') (ho : w'.ownsRow w0.heap.size 27 1 m'.v qs'.length (qs'.map (Value.int .u32))) (hm : ∀ g, m'.v.ownBlock = some g → m.v.ownBlock = some g ∨ g = w.heap.size) :
    TwoAt (andR NL w w') w0 w' p s ms m' qs' := by
  have hbl : ∀ b, ofBag p s b → w'.heap[b]? = w.heap[b]? := fun b hb => hu.block b (h.bag.bag.blt hb) fun e => h.ne b e hb
  refine ⟨⟨h.bag.bag.of hbl, fun b hb => .inl (h.bag.nl b hb), h.bag.hi, h.bag.up.trans (hu.mono h.bag.up.size fun i hi e => ?_), fun b hb => .inl (h.bag.low b hb)⟩, ho, fun g hg => ?_, fun g hg hb => ?_⟩
  · have := (h.own.lt i e).1; omega
  · rcases hm g hg with e | e
    · exact .inl (h.nl g e)
    · exact .inr ⟨by omega, (ho.lt g hg).2⟩
  · rcases hm g hg with e | e
    · exact h.ne g e hb
    · have := h.bag.bag.blt hb; omega
end

/-- A message of NetDoubles. -/
def dM (q : Int) : MG := { MGz with kd := 5, to := 1, ep := 1, sq := q }
theorem bare_d (q : Int) : Bare (dM q) := ⟨rfl, rfl, rfl, rfl, rfl, rfl⟩
theorem isB_d (q : Int) (h : q ≤ 1073741824) : isB (dM q) = true := by
  simp [isB, isM, holdsM, dM, MGz, dOf, ownD, VD.nil, RQ.nil, VT.nil, h]
theorem sent_d {ms : List MG} {q : Int} (h : q ≤ 1073741824) (hl : ms.length < 400) : sent ms (dM q) = (0, ms ++ [dM q]) := by
  simp [sent, isB_d q h]; omega

theorem build27 (q : Int) (w : World) : (Instr.buildSlice 78 1 #[(0, .int .u32 q)]).run Tryd.prog w = .ok (.slice (some ⟨w.heap.size, 0, none⟩) 1 1) (w.alloc (.cells #[.int .u32 q] 27)) :=
  run_build1 (P := Tryd.prog) und78 info27 zero27 (by rw [size27]; rfl) (by rw [size27]; omega) (by rw [size27]; omega) (v := .int .u32 q) (by rw [size27]; rfl) w

/-- One more number appended. -/
theorem push27 {NL : Nat → Prop} {w0 w : World} {p : Nat} {s : SL} {ms : List MG} {m : SL} {qs : List Int} (h : TwoAt NL w0 w p s ms m qs) (hl : qs.length < 1000) (q : Int) {b : Nat} (hb : w.heap[b]? = some (.cells #[.int .u32 q] 27 (0, 0))) :
    ∃ (m' : SL) (w' : World), (Builtin.append_ #[78, 78] 78 #[m.v, .slice (some ⟨b, 0, none⟩) 1 1]).run Tryd.prog w = .ok m'.v w' ∧ KeepsE NL w w' ∧ TwoAt (andR NL w w') w0 w' p s ms m' (qs ++ [q]) := by
  obtain ⟨m', w', hrun, hown, hgr, hmv⟩ := append_own (P := Tryd.prog) (w := w) (base := w0.heap.size) und78 info27 zero27 (by rw [size27]; rfl) (by rw [size27]; omega) (s := m) (by rw [size27]; exact h.own) (a := ⟨b, 0, none⟩) (m := 1) (c := 1) (news := [.int .u32 q]) (by omega) (by rw [size27]; rfl)
    (fun j u hj => by
      cases j with
      | zero => simp at hj; subst hj; simp [Addr.add_lit, World.cell?, hb]
      | succ j => simp at hj) (by simp [Value.oneCell']) (by unfold maxLen; omega) (by have := bytes27; have : (qs.length + 1) * i27.bytes ≤ 1000 * 1000 := Nat.mul_le_mul (by omega) this; omega) h.bag.up.size 78
  rw [size27] at hown
  have hu : Upto w.heap.size (fun b => m.v.ownBlock = some b) w w' := .grown hgr fun k e => e
  refine ⟨m', w', hrun, hu.keeps fun i hi => h.nl i hi, h.other hu ?_ hmv⟩
  simpa using hown

theorem own_pos {w : World} {base : Nat} {m : SL} {qs : List Int} (h : w.ownsRow base 27 1 m.v qs.length (qs.map (Value.int .u32))) (hl : qs.length ≤ 1000) {k : Nat} {q : Int} (hk : qs[k]? = some q) :
    ∃ g, m.v.ownBlock = some g ∧ PureRuns Tryd.prog (Instr.indexAt 78 m.v (.int .i64 (k : Int))) (.pointer (some ⟨g, k, none⟩)) ∧ CellsAt w ⟨g, k, none⟩ [.int .u32 q] := by
  have hkl : k < qs.length := (List.getElem?_eq_some_iff.1 hk).1
  obtain ⟨hxs, ⟨_, h0⟩ | ⟨g, cap, cur, hv, hb, hg, hnc, hcm, hcs, htk⟩⟩ := h
  · omega
  obtain ⟨a, n, c⟩ := m
  simp only [SL.v, Value.slice.injEq] at hv
  obtain ⟨rfl, rfl, rfl⟩ := hv
  have ra := run_index (P := Tryd.prog) und78 info27 (s := ⟨some ⟨g, 0, none⟩, qs.length, c⟩) rfl (i := (k : Int)) (by omega) (by simpa using hkl)
  simp only [Int.toNat_natCast, size27, Addr.add_lit, Nat.zero_add, Nat.mul_one] at ra
  refine ⟨g, rfl, ra, ⟨fun j u hj => ?_⟩⟩
  cases j with
  | zero =>
    simp at hj
    subst hj
    have h1 : (qs.map (Value.int .u32))[k]? = some (.int .u32 q) := by simp [hk]
    rw [← htk, List.getElem?_take] at h1
    split at h1
    · simp only [Addr.add_lit, World.cell?, hg, Nat.add_zero]
      simpa using h1
    · cases h1
  | succ j => simp at hj
end Go.Proofs.YtboedgnahmibcaaDoor
