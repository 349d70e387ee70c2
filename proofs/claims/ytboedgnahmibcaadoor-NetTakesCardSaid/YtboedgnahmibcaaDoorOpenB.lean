/- A slice of bytes that came in: it tells its bytes. -/
import Derived.Test.YtboedgnahmibcaaDoorCon1
import Derived.ProofKit
import Derived.OpenShut
import Derived.SizedLaws
namespace Go.Proofs.YtboedgnahmibcaaDoor
open Go Go.Eng Go.RowKit Go.Pal Go.ChangeShapes Go.WideShapes Go.ChangeAt
set_option linter.unusedVariables false

set_option maxRecDepth 100000 in
theorem open_bytes {H : Type} {enc : TypeId × Value → H} {W : World} {base base2 : Nat} {sp : Nat → Bool} {held : Bool} {v : Value} {d : DataW H} {ps : List MemPlace} {ts : List TypeId} {ds : List (DataW H)} {j : Nat}
    (hv : Value.okWide Tryd.prog W .any base 45 v) (hsz : (DataW.weightsEach Tryd.prog ts ds).all (· ≤ reachBytes) = true) (ht : ts[j]? = some 45) (hd : ds[j]? = some d) (h : DataW.Trod enc Tryd.prog W base2 sp held 45 v d ps) :
    ∃ (a : SL) (ls : List Int), v = a.v ∧ RowsOf W 1 a (ls.map l8) ∧ ∀ x ∈ ls, 0 ≤ x ∧ x < 256 := by
  obtain ⟨a, len, cap, rfl⟩ := okWide_slice Tryd.underlying45 hv
  have hlt : ∀ x ∈ ps, x.block < W.heap.size := by obtain ⟨m, hm⟩ := h; exact DataW.trod_lt m _ _ _ hm
  obtain ⟨fuel, hf⟩ := h
  rcases open_ints Tryd.underlying45 Tryd.underlying5 (by kernel_rfl) hf with ⟨hcs, _⟩ | ⟨x, l, c, zs, hcs, _, hl, hm, hz, hx, hcell, hwz⟩
  · simp [Value.cells] at hcs
    obtain ⟨rfl, rfl, rfl⟩ := hcs
    exact ⟨⟨none, 0, 0⟩, [], rfl, ⟨rfl, by decide, fun i r h => by simp at h⟩, fun x hx => by cases hx⟩
  · simp [Value.cells] at hcs
    obtain ⟨rfl, rfl, rfl⟩ := hcs
    obtain ⟨rfl, rfl⟩ := Prod.mk.inj hx
    have hz2 : len ≤ zs.length := by rw [hz]; split <;> omega
    have hlen : len < 4611686018427387904 := by
      have z := sized_slice hsz ht hd Tryd.underlying45
      have hb : Tryd.prog.bytesOf 5 = 1 := by kernel_rfl
      rw [hb] at z
      have hr := reachBytes_lt
      have hll : ((lits (H := H) .u8 (zs.take len))).length = len := by simp [lits]; omega
      rw [hll] at z
      omega
    refine ⟨⟨some x, len, cap⟩, zs.take len, rfl, ⟨by simp; omega, hlen, fun i r hr => ?_⟩, fun y hy => ?_⟩
    · simp only [List.getElem?_map, Option.map_eq_some_iff] at hr
      obtain ⟨n, hn, rfl⟩ := hr
      rw [List.getElem?_take] at hn
      split at hn
      · rename_i hil
        have hc := hcell i (by omega)
        have hg : zs.getD i 0 = n := by simp [List.getD, hn]
        rw [hg] at hc
        refine ⟨x, rfl, ?_, ⟨fun j u hj => ?_⟩⟩
        · have := World.block_lt_of_cell? W _ hc
          rwa [Go.Pal.add_block] at this
        · cases j with
          | zero =>
            simp [l8] at hj
            subst hj
            simpa [Addr.add] using hc
          | succ j => simp [l8] at hj
      · cases hn
    · have := hwz y (List.mem_of_mem_take hy)
      have h2 : 0 ≤ y ∧ y ≤ 255 := by simpa [Lit.wf, IntKind.min, IntKind.max, IntKind.signed, IntKind.bits] using this
      omega
end Go.Proofs.YtboedgnahmibcaaDoor
