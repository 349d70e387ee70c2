/- Part of the proofs of this seat: lemmas about calls of functions of the program (Con10); each states its own conditions. -/
import Derived.Test.YtboedgnahmibcaaDoorCon9
set_option linter.unusedVariables false
set_option linter.unusedSimpArgs false
namespace Go.Proofs.YtboedgnahmibcaaDoor
open Go Go.Eng Go.RowKit Go.Pal

theorem flat_take : ∀ (ms : List MG) (k : Nat), (ms.map MG.l).flatten.take (k * 25) = ((ms.take k).map MG.l).flatten
  | [], k => by simp
  | m :: ms, 0 => by simp
  | m :: ms, k + 1 => by
    simp only [List.map_cons, List.flatten_cons, List.take_succ_cons]
    rw [List.take_append, mg_len, List.take_of_length_le (by rw [mg_len]; omega), show (k + 1) * 25 - 25 = k * 25 by omega, flat_take ms k]
theorem flat_drop : ∀ (ms : List MG) (k : Nat), (ms.map MG.l).flatten.drop (k * 25) = ((ms.drop k).map MG.l).flatten
  | [], k => by simp
  | m :: ms, 0 => by simp
  | m :: ms, k + 1 => by
    simp only [List.map_cons, List.flatten_cons, List.drop_succ_cons]
    rw [List.drop_append, mg_len, List.drop_of_length_le (by rw [mg_len]; omega), show (k + 1) * 25 - 25 = k * 25 by omega, flat_drop ms k, List.nil_append]

theorem c34a {w : World} {p : Nat} {s : SL} {ms : List MG} (h : SBag w p s ms) {k : Nat} {m : MG} (hk : ms[k]? = some m) :
    Calls Tryd.prog 34 #[.pointer (some ⟨p, 0, none⟩), .int .i64 (k : Int)] w (Ret w (.tuple #[m.v, .bool true])) := by
  have hkl : k < ms.length := (List.getElem?_eq_some_iff.1 hk).1
  have hl := h.len_eq
  have hm : m ∈ ms := List.mem_of_getElem? hk
  obtain ⟨q, r, hq, hr, hqb, hqc, hqn⟩ := h.rows.get (i := (k : Int)) (by omega) (by omega)
  simp only [Int.toNat_natCast, List.getElem?_map, hk, Option.map_some, Option.some.injEq] at hr hqb hqc hqn
  subst hr
  have ra := run_index und51 info47 hq (i := (k : Int)) (by omega) (by simpa using hqn)
  simp only [Int.toNat_natCast, size47] at ra
  refine vc_34 w p k _ ⟨s, fun _ => h.cells, fun hx => ?_, fun hx => ⟨s, fun _ => h.cells, _, fun _ => ra, m, fun _ => ⟨hqc, hqb⟩, fun w5 hn5 => ⟨_, ⟨cn67 (h.bare m hm)⟩, fun e w8 ⟨he, hb⟩ => ⟨m, he, Below.keeps hb, fun w10 hn10 _ => ⟨rfl, ?_⟩⟩⟩⟩⟩
  · exfalso
    simp at hx
    omega
  · exact toB (mid_now (mid_below (.now' hn5 fun _ h => h) hb) hn10 fun _ h => .inl h)

theorem c34b {w : World} {p : Nat} {s : SL} {ms : List MG} (h : SBag w p s ms) {i : Int} (hi : i < 0 ∨ (ms.length : Int) ≤ i) :
    Calls Tryd.prog 34 #[.pointer (some ⟨p, 0, none⟩), .int .i64 i] w (Ret w (.tuple #[MGz.v, .bool false])) := by
  have hl := h.len_eq
  refine vc_34 w p i _ ⟨s, fun _ => h.cells, fun hx w1 hn _ => ⟨rfl, hn.toBelow⟩, fun hx => ?_⟩
  exfalso
  simp at hx
  omega

theorem c68 {w : World} {s : SL} {ms : List MG} (h : w.ownsRow 0 47 25 s.v ms.length (ms.map MG.l).flatten) (hl : ms.length ≤ 1000) {k : Nat} (hk : k < ms.length) :
    Calls Tryd.prog 68 #[s.v, .int .i64 (k : Int), .int .i64 (k + 1 : Int)] w fun e w2 => ∃ s' : SL, e = .returned s'.v ∧ w2.ownsRow 0 47 25 s'.v (ms.length - 1) ((ms.eraseIdx k).map MG.l).flatten ∧ s'.v.ownBlock = s.v.ownBlock ∧ Upto w.heap.size (fun b => s.v.ownBlock = some b) w w2 := by
  obtain ⟨hxs, ⟨_, h0⟩ | ⟨g, cap, cur, hv, _, hg, hnc, hcm, hcs, htk⟩⟩ := h
  · omega
  obtain ⟨a, n, c⟩ := s
  simp only [SL.v, Value.slice.injEq] at hv
  obtain ⟨rfl, rfl, rfl⟩ := hv
  have hgl : g < w.heap.size := (Array.getElem?_eq_some_iff.1 hg).1
  have hfl := flat_len ms
  have e1 : (k : Int).toNat = k := Int.toNat_natCast k
  have e2 : ((k : Int) + 1).toNat = k + 1 := by omega
  have hmx : c < 9223372036854775808 := by have := hcm; unfold maxLen at this; omega
  have p0 := pr_slice_lhm (P := Tryd.prog) und51' elem51 info47 (a := some ⟨g, 0, none⟩) (n := ms.length) (c := c) (l := (k : Int)) (h := (k : Int) + 1) (m := (ms.length : Int)) (by omega) (by omega) (by omega) (by omega)
  have p1 := pr_slice_h (P := Tryd.prog) und51' elem51 info47 (a := some ⟨g, 0, none⟩) (n := ms.length) (c := c) (h := (k : Int)) (by omega) (by omega)
  have p2 := pr_slice_l (P := Tryd.prog) und51' elem51 info47 (a := some ⟨g, 0, none⟩) (n := ms.length) (c := c) (l := (k : Int) + 1) (by omega) (by omega)
  rw [e1] at p1
  rw [e2, size47] at p2
  refine vc_68 w ⟨some ⟨g, 0, none⟩, ms.length, c⟩ k (k + 1) _ ⟨⟨_, _, _⟩, fun _ => p0, fun hx => ?_, fun _ => ⟨rfl, ⟨_, _, _⟩, fun _ => p1, ⟨_, _, _⟩, fun _ => p2, fun w4 hn4 => ?_⟩⟩
  · exfalso; simp at hx; omega
  have hg4 : w4.heap[g]? = some (.cells cur 47 (0, 0)) := by rw [hn4.block g hgl]; exact hg
  -- the elements behind
  have hnews_len : ((ms.drop (k + 1)).map MG.l).flatten.length = (ms.length - (k + 1)) * 25 := by rw [flat_len]; simp
  have hnew_get : ∀ (j : Nat) (u : Value), ((ms.drop (k + 1)).map MG.l).flatten[j]? = some u → cur[(k + 1) * 25 + j]? = some u := fun j u hj => by
    rw [← flat_drop, List.getElem?_drop, ← htk, List.getElem?_take] at hj
    split at hj
    · simpa using hj
    · cases hj
  have hroom := run_append_room (P := Tryd.prog) w4 51 51 47 i47 und51 info47 g k c cur hg4 (if c = k + 1 then ⟨g, 0, none⟩ else ⟨g, (k + 1) * 25, none⟩) (ms.length - (k + 1)) (c - (k + 1)) ((ms.drop (k + 1)).map MG.l).flatten (by rw [size47]; exact hnews_len)
    (fun j u hj => by
      have hc := hnew_get j u hj
      split
      · rename_i e
        have : ms.length = k + 1 := by omega
        rw [List.drop_of_length_le (by omega)] at hj
        simp at hj
      · simp [Addr.add_lit, World.cell?, hg4, hc]) (rows_one _) (by omega) (by rw [size47, hnews_len, hcs]; omega)
  rw [size47] at hroom
  have hcur2 : ∃ cur2 : Array Value, cur2 = (cur.toList.take (k * 25) ++ ((ms.drop (k + 1)).map MG.l).flatten ++ cur.toList.drop (k * 25 + ((ms.drop (k + 1)).map MG.l).flatten.length)).toArray := ⟨_, rfl⟩
  obtain ⟨cur2, hcur2⟩ := hcur2
  have hc2 : cur2.size = c * 25 := by
    rw [hcur2]; simp only [List.size_toArray, List.length_append, List.length_take, List.length_drop, Array.length_toList, hnews_len, hcs]
    have : k * 25 ≤ c * 25 := Nat.mul_le_mul_right _ (by omega)
    have : (ms.length - (k + 1)) * 25 + (k + 1) * 25 = ms.length * 25 := by omega
    have : ms.length * 25 ≤ c * 25 := Nat.mul_le_mul_right _ (by omega)
    omega
  have hk25 : k * 25 ≤ ms.length * 25 := Nat.mul_le_mul_right _ (by omega)
  have hn25 : ms.length * 25 ≤ c * 25 := Nat.mul_le_mul_right _ (by omega)
  have ht2 : cur2.toList.take ((ms.length - 1) * 25) = ((ms.eraseIdx k).map MG.l).flatten := by
    have ha : cur.toList.take (k * 25) = ((ms.take k).map MG.l).flatten := by
      rw [← flat_take, ← htk, List.take_take, Nat.min_eq_left hk25]
    rw [hcur2, ha, List.eraseIdx_eq_take_drop_succ]
    simp only [List.map_append, List.flatten_append]
    have hlen : (((ms.take k).map MG.l).flatten ++ ((ms.drop (k + 1)).map MG.l).flatten).length = (ms.length - 1) * 25 := by
      rw [List.length_append, hnews_len, flat_len, List.length_take, Nat.min_eq_left (by omega)]
      omega
    rw [← hlen]
    exact List.take_left
  rw [← hcur2] at hroom
  have hroom' : (Builtin.append_ #[51, 51] 51 #[.slice (some ⟨g, 0, none⟩) k c, .slice (if c = k + 1 then some ⟨g, 0, none⟩ else Option.map (fun x : Addr => x.add ((k + 1) * 25)) (some (⟨g, 0, none⟩ : Addr))) (ms.length - (k + 1)) (c - (k + 1))]).run Tryd.prog w4 = .ok (.slice (some ⟨g, 0, none⟩) (k + (ms.length - (k + 1))) c) (w4.setRow g cur2) := by
    have e : (if c = k + 1 then some (⟨g, 0, none⟩ : Addr) else Option.map (fun x : Addr => x.add ((k + 1) * 25)) (some (⟨g, 0, none⟩ : Addr))) = some (if c = k + 1 then ⟨g, 0, none⟩ else ⟨g, (k + 1) * 25, none⟩) := by
      split
      · rfl
      · simp [Addr.add_lit]
    rw [e]
    exact hroom
  have en : k + (ms.length - (k + 1)) = ms.length - 1 := by omega
  rw [en] at hroom'
  have hg6 : (w4.setRow g cur2).heap[g]? = some (.cells cur2 47 (0, 0)) := setRow_heap w4 g cur cur2 47 (0, 0) hg4
  have p3 := pr_slice_lh (P := Tryd.prog) und51' elem51 info47 (a := some ⟨g, 0, none⟩) (n := ms.length - 1) (c := c) (l := ((ms.length - 1 : Nat) : Int)) (h := (ms.length : Int)) (by omega) (by omega) (by omega) (by omega)
  refine ⟨⟨some ⟨g, 0, none⟩, ms.length - 1, c⟩, _, ⟨hroom'⟩, Upto.keeps (X := fun b => b = g) (.setRow _ (.inr rfl)) (fun i hi => by subst hi; exact hgl), ⟨_, _, _⟩, fun _ => p3, fun w8 hn8 => ?_⟩
  have hg8 : w8.heap[g]? = some (.cells cur2 47 (0, 0)) := by rw [hn8.block g (.inl hgl)]; exact hg6
  obtain ⟨new, hnl, hclr⟩ := run_clear (P := Tryd.prog) (ty := 0) und51 info47 zero47 (by rw [size47]; rfl) (mg_one MGz) (w := w8) (g := g) (off := (ms.length - 1) * 25) (n := 1) (c := c - (ms.length - 1)) hg8 (by omega) (by rw [size47, hc2]; omega)
  rw [size47] at hnl
  refine ⟨w8.setRow g (cur2.toList.take ((ms.length - 1) * 25) ++ new ++ cur2.toList.drop ((ms.length - 1) * 25 + new.length)).toArray, ⟨?_⟩, Upto.keeps (X := fun b => b = g) (.setRow _ (.inr rfl)) (fun i hi => by subst hi; exact .inl hgl), fun w10 hn10 _ => ⟨⟨some ⟨g, 0, none⟩, ms.length - 1, c⟩, rfl, ⟨?_, .inr ⟨g, c, (cur2.toList.take ((ms.length - 1) * 25) ++ new ++ cur2.toList.drop ((ms.length - 1) * 25 + new.length)).toArray, rfl, Nat.zero_le _, ?_, by omega, hcm, ?_, ?_⟩⟩, rfl, ?_⟩⟩
  · have e3 : ((ms.length - 1 : Nat) : Int).toNat = ms.length - 1 := by omega
    have e4 : (ms.length : Int).toNat - (ms.length - 1) = 1 := by omega
    rw [e3, e4, size47]
    simp only [SL.v, Option.map, Addr.add_lit, Nat.zero_add]
    exact hclr
  · rw [flat_len, List.length_eraseIdx_of_lt hk]
  · rw [hn10.block g (.inl (.inl hgl))]
    exact setRow_heap w8 g cur2 _ 47 (0, 0) hg8
  · simp only [List.size_toArray, List.length_append, List.length_take, List.length_drop, Array.length_toList, hnl, hc2]
    omega
  · rw [List.append_assoc, List.take_append_of_le_length (by simp [hc2]; omega), List.take_take, Nat.min_self, ht2]
  · have v1 : Upto w.heap.size (fun b => some g = some b) w w4 := .now hn4 fun i hi _ => hi
    have v2 : Upto w.heap.size (fun b => some g = some b) w4 (w4.setRow g cur2) := .setRow _ (.inr rfl)
    have v3 : Upto w.heap.size (fun b => some g = some b) (w4.setRow g cur2) w8 := .now hn8 fun i hi _ => .inl hi
    exact (((v1.trans v2).trans v3).trans (.setRow _ (.inr rfl))).trans (.now hn10 fun i hi _ => .inl (.inl hi))
end Go.Proofs.YtboedgnahmibcaaDoor
