/- Part of the proofs of this seat: lemmas about calls of functions of the program (Con17); each states its own conditions. -/
import Derived.Test.YtboedgnahmibcaaDoorCon16
set_option linter.unusedVariables false
set_option linter.unusedSimpArgs false
namespace Go.Proofs.YtboedgnahmibcaaDoor
open Go Go.Eng Go.RowKit Go.Pal

/-- What NetDoubles knows at its loops' heads. -/
def Dbl (NL : Nat → Prop) (w0 w : World) (p : Nat) (m : SL) (qs : List Int) : Prop := ∃ s, TwoAt NL w0 w p s (qs.map dM) m qs ∧ ∀ q ∈ qs, 0 ≤ q ∧ q < 100

theorem c6 {w : World} {n : Int} {a : SL} {ls : List Int} (hn0 : 0 ≤ n) (hn1 : n < 256) (ha : RowsOf w 1 a (ls.map l8)) (hls : ∀ x ∈ ls, 0 ≤ x ∧ x < 256) : Calls Tryd.prog 6 #[.int .u8 n, a.v] w (Ret w (.bool true)) := by
  have hal : a.n = ls.length := by have := ha.len; simpa using this
  have hK0 : 0 ≤ n % 20 := Int.emod_nonneg _ (by omega)
  have hK1 : n % 20 < 20 := Int.emod_lt_of_pos _ (by omega)
  have hwk : IntKind.i64.wrap (n % 20) = n % 20 := wrap64 (by omega) (by omega)
  refine vc_6 w n a _ fun w0 hw0 => ⟨_, ⟨c30⟩, fun e w3 ⟨he, hb3⟩ => ⟨true, he, Below.keeps hb3, fun hx => by simp at hx, fun _ => ⟨fun _ w6 hn6 _ => ⟨rfl, ?_⟩, fun ha60 w7 hn7 => ?_⟩⟩⟩
  · exact toB (mid_now (mid_below (.now' hw0 fun _ h => h) hb3) hn6 fun _ h => .inl h)
  have ha60 : ls.length ≤ 60 := by rw [hal] at ha60; simp at ha60; omega
  have u7 : Upto w.heap.size no w w7 := mid_now (mid_below (.now' hw0 fun _ h => h) hb3) hn7 fun _ h => .inl h
  refine ⟨_, ⟨c31⟩, fun e w10 ⟨p, he, hp, hbag, hb10⟩ => ⟨⟨p, 0, none⟩, he, Below.keeps hb10, ?_⟩⟩
  have a10 : BagAt (fun b => (b < w.heap.size ∨ w0.heap.size ≤ b ∧ b < w3.heap.size) ∨ w7.heap.size ≤ b ∧ b < w10.heap.size) w w10 p SL.nil [] := by
    have hb : ∀ b, ofBag p SL.nil b → b = p := fun b hb => hb.elim id fun e => by simp [SL.nil, SL.v, Value.ownBlock] at e
    exact ⟨hbag, fun b h => by rw [hb b h]; exact .inr ⟨hp, hbag.lt⟩, fun b h => by rw [hb b h]; exact Nat.le_trans u7.size hp, mid_below u7 hb10, fun b h => .inl (.inl h)⟩
  have t10 : TwoAt _ w w10 p SL.nil ([].map dM) SL.nil [] := ⟨a10, World.ownsRow_nil _ _ _ _, fun g hg => by simp [SL.nil, SL.v, Value.ownBlock] at hg, fun g hg => by simp [SL.nil, SL.v, Value.ownBlock] at hg⟩
  refine ⟨fun x => 0 ≤ x.1 ∧ x.1 ≤ n % 20 + 1 ∧ ∃ qs, Dbl x.2.2.2 w x.2.2.1 p x.2.1 qs ∧ (qs.length : Int) = x.1, fun x => (n % 20 + 1 - x.1).toNat,
    ⟨rfl, (0, SL.nil, w10, _), ⟨by simp, by simp; omega, [], ⟨SL.nil, t10, (fun q hq => by cases hq)⟩, by simp⟩, rfl, rfl, ⟨rfl, rfl, trivial⟩, trivial⟩, fun x ⟨hx0, hx1, qs, hd, hlen⟩ => ⟨_, fun _ => pr_rem 5 .u8 hn0 (by omega), ?_⟩⟩
  obtain ⟨i, m, W, NL⟩ := x
  simp only at hx0 hx1 hd hlen
  rw [hwk]
  refine ⟨fun hlt => ?_, fun hge => ?_⟩
  · have hlt : i ≤ n % 20 := by simpa using hlt
    obtain ⟨s, ht, hq⟩ := hd
    intro w17 hn17
    have t17 := ht.now hn17
    have hw32 : IntKind.u32.wrap i = i := wrap32 (by omega) (by omega)
    dsimp only
    rw [hw32]
    have k := c32 t17.bag.bag (bare_d i) (by simp [dM]) (by simp [dM]) (by simp; omega)
    rw [sent_d (by omega) (by simp; omega)] at k
    refine ⟨_, ⟨k⟩, fun e w20 ⟨s1, he, hb, hu, hm⟩ => ⟨0, he, t17.bag.keeps hu, fun hx => by simp at hx, fun _ w23 hn23 => ⟨⟨some ⟨w23.heap.size, 0, none⟩, 1, 1⟩, _, ⟨build27 i w23⟩, Below.keeps ((Upto.alloc (X := no) _ (Nat.le_refl _)).toBelow fun _ _ h => h), fun w26 hn26 => ?_⟩⟩⟩
    have t23 := (t17.call hb hu hm).now hn23
    have hal25 : Below w23.heap.size w23 (w23.alloc (.cells #[.int .u32 i] 27)) := (Upto.alloc (X := no) _ (Nat.le_refl _)).toBelow fun _ _ h => h
    have t26 := (t23.quiet hal25).now hn26
    have hcell : w26.heap[w23.heap.size]? = some (.cells #[.int .u32 i] 27 (0, 0)) := by
      rw [hn26.block _ (.inr ⟨Nat.le_refl _, by simp⟩)]
      exact heap_new w23 _
    obtain ⟨m', w28, hrun, hkeep, ht28⟩ := push27 t26 (by omega) i hcell
    refine ⟨m', w28, ⟨hrun⟩, hkeep, by trivial, (i + 1, m', w28, _), ⟨by simp; omega, by simp; omega, qs ++ [i], ⟨s1, ?_, fun q hq' => ?_⟩, by simp; omega⟩, by simp; omega, rfl, rfl, ⟨by rw [wrap64 (by omega) (by omega)], rfl, trivial⟩, trivial⟩
    · rw [List.map_append]; exact ht28
    · rcases List.mem_append.1 hq' with h | h
      · exact hq q h
      · obtain rfl : q = i := by simpa using h
        omega
  · have hge : n % 20 < i := by simpa using hge
    obtain rfl : i = n % 20 + 1 := by omega
    refine ⟨fun x => 0 ≤ x.1 ∧ x.1 ≤ ls.length ∧ ∃ qs, Dbl x.2.2.2 w x.2.2.1 p x.2.1 qs ∧ (qs.length : Int) = n % 20 + 1 + x.1, fun x => (ls.length - x.1).toNat,
      ⟨by trivial, (0, m, W, NL), ⟨by simp, by simp, qs, hd, by simpa using hlen⟩, rfl, rfl, ⟨rfl, rfl, trivial⟩, trivial⟩, fun x ⟨hy0, hy1, qs, hd, hlen⟩ => ⟨fun hlt => ?_, fun hge => ?_⟩⟩
    · obtain ⟨j, m, W, NL⟩ := x
      simp only at hy0 hy1 hd hlen hlt ⊢
      have hlt : j < (a.n : Int) := by simpa using hlt
      obtain ⟨s, ht, hq⟩ := hd
      obtain ⟨q, r, hqa, hr, hqb, hqc, hqn⟩ := (ha.upto ht.bag.up).get hy0 hlt
      simp only [List.getElem?_map, Option.map_eq_some_iff] at hr
      obtain ⟨x, hx, rfl⟩ := hr
      have hxr := hls x (List.mem_of_getElem? hx)
      have ra := run_index (P := Tryd.prog) und45 info5 hqa hy0 hqn
      rw [size5] at ra
      have hmn : m.n = qs.length := own_n ht.own
      have hwx : IntKind.i64.wrap x = x := wrap64 (by omega) (by omega)
      have hblk : (q.add (j.toNat * 1)).block < w.heap.size := by
        obtain ⟨q', hq', hlt', _⟩ := ha.row j.toNat (l8 x) (by simp [hx])
        rw [hqa] at hq'
        obtain rfl := Option.some.inj hq'
        rw [Go.Pal.add_block]; exact hlt'
      rw [hmn]
      refine ⟨_, fun _ => ra, x, fun _ => ⟨hqc, ht.bag.low _ hblk⟩, _, fun _ => by rw [hwx]; exact pr_rem 3 .i64 hxr.1 (by omega), fun w37 hn37 => ?_⟩
      have hk0 : 0 ≤ x % (qs.length : Int) := Int.emod_nonneg _ (by omega)
      have hk1 : x % (qs.length : Int) < qs.length := Int.emod_lt_of_pos _ (by omega)
      generalize hkk : x % (qs.length : Int) = k at *
      obtain ⟨kn, rfl⟩ : ∃ kn : Nat, k = kn := ⟨k.toNat, by omega⟩
      have hkl : kn < qs.length := by omega
      have t37 := ht.now hn37
      have hqk := hq _ (List.getElem_mem hkl)
      have k := c37a t37.bag.bag (by simp; omega) (k := kn) (m := dM qs[kn]) (by simp [List.getElem?_eq_getElem hkl]) (by simp [dM]) (by simp [dM])
      rw [sent_d (by omega) (by simp; omega)] at k
      refine ⟨_, ⟨k⟩, fun e w40 ⟨s1, he, hb, hu, hm⟩ => ⟨0, he, t37.bag.keeps hu, fun hx => by simp at hx, fun _ => ?_⟩⟩
      have t40 := t37.call hb hu hm
      obtain ⟨g, hg, hri, hcell⟩ := own_pos t40.own (by omega) (List.getElem?_eq_getElem hkl)
      refine ⟨_, fun _ => hri, qs[kn], fun _ => ⟨hcell, t40.nl g hg⟩, fun w45 hn45 => ⟨⟨some ⟨w45.heap.size, 0, none⟩, 1, 1⟩, _, ⟨build27 _ w45⟩, Below.keeps ((Upto.alloc (X := no) _ (Nat.le_refl _)).toBelow fun _ _ h => h), fun w48 hn48 => ?_⟩⟩
      have t45 := t40.now hn45
      have hal47 : Below w45.heap.size w45 (w45.alloc (.cells #[.int .u32 qs[kn]] 27)) := (Upto.alloc (X := no) _ (Nat.le_refl _)).toBelow fun _ _ h => h
      have t48 := (t45.quiet hal47).now hn48
      have hcell2 : w48.heap[w45.heap.size]? = some (.cells #[.int .u32 qs[kn]] 27 (0, 0)) := by
        rw [hn48.block _ (.inr ⟨Nat.le_refl _, by simp⟩)]
        exact heap_new w45 _
      obtain ⟨m', w50, hrun, hkeep, ht50⟩ := push27 t48 (by omega) qs[kn] hcell2
      refine ⟨m', w50, ⟨hrun⟩, hkeep, by trivial, (j + 1, m', w50, _), ⟨by simp; omega, by simp; omega, qs ++ [qs[kn]], ⟨s1, ?_, fun q hq' => ?_⟩, by simp; omega⟩, by simp; omega, rfl, rfl, ⟨by rw [wrap64 (by omega) (by omega)], rfl, trivial⟩, trivial⟩
      · rw [List.map_append]; exact ht50
      · rcases List.mem_append.1 hq' with h | h
        · exact hq q h
        · obtain rfl : q = qs[kn] := by simpa using h
          exact hqk
    · obtain ⟨j, m, W, NL⟩ := x
      simp only at hy0 hy1 hd hlen hge ⊢
      obtain ⟨s, ht, hq⟩ := hd
      have hmn : m.n = qs.length := own_n ht.own
      rw [hmn]
      intro w52 hn52
      have t52 := ht.now hn52
      refine ⟨_, ⟨c38 t52.bag.bag⟩, fun e w55 ⟨s', he, hb, hown⟩ => ⟨s', he, Below.keeps hb, fun hx => ?_, fun _ => ?_⟩⟩
      · rw [own_n hown] at hx; simp at hx
      have t55 := t52.quiet hb
      refine ⟨fun x => 0 ≤ x.1 ∧ x.1 ≤ qs.length ∧ x.2.1 = w55 ∧ x.2.2 = andR NL w52 w55, fun x => (qs.length - x.1).toNat, ⟨by trivial, (0, w55, andR NL w52 w55), ⟨by simp, by simp, rfl, rfl⟩, rfl, rfl, ⟨rfl, trivial⟩, trivial⟩, fun x ⟨hz0, hz1, hz2, hz3⟩ => ⟨fun hlt => ?_, fun _ w70 hn70 _ => ⟨rfl, ?_⟩⟩⟩
      · obtain ⟨i, W2, NL2⟩ := x
        simp only at hz0 hz1 hz2 hz3 hlt ⊢
        subst hz2 hz3
        have hlt : i < (qs.length : Int) := by simpa using hlt
        obtain ⟨k, rfl⟩ : ∃ k : Nat, i = k := ⟨i.toNat, by omega⟩
        have hkl : k < qs.length := by omega
        obtain ⟨g2, cap, cur, rfl, hbg, hg, hcs, hnc, hri, hcells, _⟩ := own_get hown (by simp; omega) (k := k) (m := dM qs[k]) (by simp [List.getElem?_eq_getElem hkl])
        obtain ⟨g, hgm, hri2, hcell2⟩ := own_pos t55.own (by omega) (List.getElem?_eq_getElem hkl)
        have hg2 : andR NL w52 W2 g2 := .inr ⟨hbg, (Array.getElem?_eq_some_iff.1 hg).1⟩
        have hc5 : CellsAt W2 ⟨g2, k * 25 + 5, none⟩ [.int .u32 qs[k]] := ⟨fun j u hj => by
          cases j with
          | zero =>
            have := hcells.out 5 u (by simpa [MG.l, dM, MGz] using hj)
            simpa [Addr.add_lit] using this
          | succ j => simp at hj⟩
        have hc0 : CellsAt W2 ⟨g2, k * 25, none⟩ [.int .u8 5] := ⟨fun j u hj => by
          cases j with
          | zero =>
            have := hcells.out 0 u (by simpa [MG.l, dM, MGz] using hj)
            simpa [Addr.add_lit] using this
          | succ j => simp at hj⟩
        refine ⟨by trivial, _, fun _ => hri, qs[k], fun _ => ⟨hc5, hg2⟩, _, fun _ => hri2, qs[k], fun _ => ⟨hcell2, t55.nl g hgm⟩, _, fun _ => hri, 5, fun _ => ⟨hc0, hg2⟩, fun hx => by simp at hx, fun _ => ⟨by trivial, ((k : Int) + 1, W2, _), ⟨by simp; omega, by simp; omega, rfl, rfl⟩, by simp; omega, rfl, rfl, ⟨by rw [wrap64 (by omega) (by omega)], trivial⟩, trivial⟩⟩
      · obtain ⟨i, W2, NL2⟩ := x
        simp only at hz2 hz3 hn70
        subst hz2 hz3
        exact (t55.bag.now hn70).below
end Go.Proofs.YtboedgnahmibcaaDoor
