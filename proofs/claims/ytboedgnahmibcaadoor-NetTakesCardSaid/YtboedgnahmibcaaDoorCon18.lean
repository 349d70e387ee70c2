/- Part of the proofs of this seat: lemmas about calls of functions of the program (Con18); each states its own conditions. -/
import Derived.Test.YtboedgnahmibcaaDoorCon17
import Derived.Test.YtboedgnahmibcaaDoorVcL5
set_option linter.unusedVariables false
set_option linter.unusedSimpArgs false
namespace Go.Proofs.YtboedgnahmibcaaDoor
open Go Go.Eng Go.RowKit Go.Pal

theorem und70 : Tryd.prog.underlying 70 = some (.array 60 4) := by kernel_rfl
noncomputable def i4 : TypeInfo := (Tryd.prog.info? 4).getD default
theorem info4 : Tryd.prog.info? 4 = some i4 := by kernel_rfl
theorem size4 : i4.size = 1 := by kernel_rfl

theorem index70 (b k : Nat) (h : k < 60) : PureRuns Tryd.prog (Instr.indexAt 70 (.pointer (some ⟨b, 0, none⟩)) (.int .i64 (k : Int))) (.pointer (some ⟨b, k, none⟩)) := by
  refine ⟨fun w => ?_⟩
  have h2 : (k : Int) < 60 := by omega
  simp [Instr.indexAt, asIntOf, run_underlying und70, sizeOf, typeInfo, info4, size4, Instr.sureAddr, h, h2, Addr.add_lit]

/-- A message of NetTakes. -/
def tM (q : Int) : MG := { MGz with kd := 4, fr := 1, to := 2, ep := 1, sq := q + 1 }
theorem bare_t (q : Int) : Bare (tM q) := ⟨rfl, rfl, rfl, rfl, rfl, rfl⟩
theorem isB_t (q : Int) (h0 : 0 ≤ q) (h : q < 100) : isB (tM q) = true := by
  have h1 : (1 : Int) ≤ q + 1 := by omega
  have h2 : q + 1 ≤ (1073741824 : Int) := by omega
  have h3 : isReq RQ.nil = true := by decide
  simp [isB, isM, holdsM, tM, MGz, dOf, ownD, VD.nil, VT.nil, h1, h2, h3]
theorem sent_t {ms : List MG} {q : Int} (h0 : 0 ≤ q) (h : q < 100) (hl : ms.length < 400) : sent ms (tM q) = (0, ms ++ [tM q]) := by
  simp [sent, isB_t q h0 h]; omega

/-- The places unseen below k. -/
def un (bs : List Bool) (k : Nat) : List Nat := (List.range k).filter fun q => bs[q]? == some false
theorem un_succ (bs : List Bool) (k : Nat) : un bs (k + 1) = un bs k ++ (if bs[k]? = some false then [k] else []) := by
  simp only [un, List.range_succ, List.filter_append]
  congr 1
  by_cases h : bs[k]? = some false <;> simp [h]
theorem un_new (k : Nat) (h : k ≤ 60) : un (List.replicate 60 false) k = List.range k := by
  simp only [un]
  rw [List.filter_eq_self]
  intro q hq
  have := List.mem_range.1 hq
  simp only [List.getElem?_replicate]
  rw [if_pos (by omega)]
  rfl
theorem un_nodup (bs : List Bool) (k : Nat) : (un bs k).Nodup := List.Nodup.sublist List.filter_sublist List.nodup_range
theorem un_mem {bs : List Bool} {k q : Nat} (h : q ∈ un bs k) : q < k ∧ bs[q]? = some false := by
  simpa [un] using h
theorem eraseIdx_nodup : ∀ (L : List Nat) (j q : Nat), L.Nodup → L[j]? = some q → L.eraseIdx j = L.filter (· != q)
  | [], j, q, _, h => by simp at h
  | x :: L, 0, q, hn, h => by
    obtain rfl : x = q := by simpa using h
    have hx : x ∉ L := (List.nodup_cons.1 hn).1
    simp only [List.eraseIdx_zero, List.tail_cons, List.filter_cons, bne_self_eq_false, Bool.false_eq_true, if_false]
    refine (List.filter_eq_self.2 fun y hy => ?_).symm
    simp only [bne_iff_ne]
    exact fun e => hx (e ▸ hy)
  | x :: L, j + 1, q, hn, h => by
    have h' : L[j]? = some q := by simpa using h
    have hx : x ∉ L := (List.nodup_cons.1 hn).1
    have hne : x ≠ q := fun e => hx (e ▸ List.mem_of_getElem? h')
    simp only [List.eraseIdx_cons_succ, eraseIdx_nodup L j q (List.nodup_cons.1 hn).2 h', List.filter_cons]
    rw [if_pos (by simpa using hne)]
theorem un_erase {bs : List Bool} {k j q : Nat} (h : (un bs k)[j]? = some q) : (un bs k).eraseIdx j = un (bs.set q true) k := by
  have hq := un_mem (List.mem_of_getElem? h)
  have hql : q < bs.length := (List.getElem?_eq_some_iff.1 hq.2).1
  rw [eraseIdx_nodup _ _ _ (un_nodup bs k) h]
  simp only [un, List.filter_filter]
  refine List.filter_congr fun x hx => ?_
  simp only [List.getElem?_set]
  by_cases e : q = x
  · subst e; simp [hql]
  · have e2 : x ≠ q := fun h => e h.symm
    simp [e, e2]

/-- A bag beside an array of one's own. -/
structure TakAt (NL : Nat → Prop) (w0 w : World) (p : Nat) (s : SL) (ms : List MG) (b : Nat) (bs : List Bool) : Prop where
  bag : BagAt NL w0 w p s ms
  blk : w.heap[b]? = some (.cells (bs.map Value.bool).toArray 70 (0, 0))
  nl : NL b
  hi : w0.heap.size ≤ b
  ne : ¬ ofBag p s b
  len : bs.length = 60
section
variable {NL : Nat → Prop} {w0 w w' : World} {p b : Nat} {s s' : SL} {ms ms' : List MG} {bs : List Bool}
theorem TakAt.lt (h : TakAt NL w0 w p s ms b bs) : b < w.heap.size := (Array.getElem?_eq_some_iff.1 h.blk).1
theorem TakAt.now (h : TakAt NL w0 w p s ms b bs) (hn : Now NL w w') : TakAt NL w0 w' p s ms b bs :=
  ⟨h.bag.now hn, by rw [hn.block b h.nl]; exact h.blk, h.nl, h.hi, h.ne, h.len⟩
theorem TakAt.quiet (h : TakAt NL w0 w p s ms b bs) (hb : Below w.heap.size w w') : TakAt (andR NL w w') w0 w' p s ms b bs :=
  ⟨h.bag.quiet hb, by rw [hb.block b h.lt]; exact h.blk, .inl h.nl, h.hi, h.ne, h.len⟩
theorem TakAt.call (h : TakAt NL w0 w p s ms b bs) (h1 : SBag w' p s' ms') (h2 : Upto w.heap.size (ofBag p s) w w') (h3 : Moved w s s') : TakAt (andR NL w w') w0 w' p s' ms' b bs := by
  refine ⟨h.bag.call h1 h2 h3, by rw [h2.block b h.lt h.ne]; exact h.blk, .inl h.nl, h.hi, fun hb => ?_, h.len⟩
  rcases hb with rfl | hb
  · exact h.ne (.inl rfl)
  · rcases h3 b hb with e | e
    · exact h.ne (.inr e)
    · have := h.lt; omega
theorem TakAt.new (h : BagAt NL w0 w p s ms) (hl : bs.length = 60) : TakAt (fun b => NL b ∨ w.heap.size ≤ b ∧ b < w.heap.size + 1) w0 (w.alloc (.cells (bs.map Value.bool).toArray 70)) p s ms w.heap.size bs := by
  have hb : Below w.heap.size w (w.alloc (.cells (bs.map Value.bool).toArray 70)) := (Upto.alloc (X := no) _ (Nat.le_refl _)).toBelow fun _ _ h => h
  have h2 := h.quiet hb
  have e : andR NL w (w.alloc (.cells (bs.map Value.bool).toArray 70)) = fun b => NL b ∨ w.heap.size ≤ b ∧ b < w.heap.size + 1 := by
    funext b; simp [andR]
  rw [e] at h2
  exact ⟨h2, heap_new w _, .inr ⟨Nat.le_refl _, by omega⟩, h.up.size, fun hb => by have := h.bag.blt hb; omega, hl⟩
theorem TakAt.set (h : TakAt NL w0 w p s ms b bs) (q : Nat) (hq : q < 60) :
    ∃ w', StoresTo Tryd.prog 4 ⟨b, q, none⟩ (.bool true) NL w w' ∧ TakAt NL w0 w' p s ms b (bs.set q true) := by
  have hs := stores_one (P := Tryd.prog) info4 size4 (NL := NL) (off := q) (v := .bool true) h.blk h.nl rfl (by simp [h.len, hq])
  refine ⟨_, hs, ?_⟩
  have hb : ∀ c, ofBag p s c → (w.setRow b ((bs.map Value.bool).toArray.setIfInBounds q (.bool true))).heap[c]? = w.heap[c]? := fun c hc => setRow_other _ _ _ _ fun e => h.ne (e ▸ hc)
  refine ⟨⟨h.bag.bag.of hb, h.bag.nl, h.bag.hi, h.bag.up.trans (.setRow _ (.inl h.hi)), h.bag.low⟩, ?_, h.nl, h.hi, h.ne, by simp [h.len]⟩
  rw [setRow_heap w b _ _ 70 (0, 0) h.blk]
  congr 2
  apply Array.ext'
  simp [List.map_set]
end
theorem TakAt.get {NL : Nat → Prop} {w0 w : World} {p b : Nat} {s : SL} {ms : List MG} {bs : List Bool} (h : TakAt NL w0 w p s ms b bs) {q : Nat} {x : Bool} (hq : bs[q]? = some x) : CellsAt w ⟨b, q, none⟩ [.bool x] :=
  ⟨fun j u hj => by
    cases j with
    | zero =>
      simp at hj
      subst hj
      simp [Addr.add_lit, World.cell?, h.blk, hq]
    | succ j => simp at hj⟩
end Go.Proofs.YtboedgnahmibcaaDoor
