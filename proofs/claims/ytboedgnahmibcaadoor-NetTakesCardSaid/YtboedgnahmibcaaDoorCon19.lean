/- Part of the proofs of this seat: lemmas about calls of functions of the program (Con19); each states its own conditions. -/
import Derived.Test.YtboedgnahmibcaaDoorCon18
set_option linter.unusedVariables false
set_option linter.unusedSimpArgs false
namespace Go.Proofs.YtboedgnahmibcaaDoor
open Go Go.Eng Go.RowKit Go.Pal

def tq (j : Nat) : MG := tM (j : Int)
theorem map_eraseIdx' {α β : Type} (f : α → β) : ∀ (l : List α) (k : Nat), (l.map f).eraseIdx k = (l.eraseIdx k).map f
  | [], k => by simp
  | x :: l, 0 => by simp
  | x :: l, k + 1 => by simp [map_eraseIdx' f l k]
theorem c5 {w : World} {n : Int} {a : SL} {ls : List Int} (hn0 : 0 ≤ n) (hn1 : n < 256) (ha : RowsOf w 1 a (ls.map l8)) (hls : ∀ x ∈ ls, 0 ≤ x ∧ x < 256) : Calls Tryd.prog 5 #[.int .u8 n, a.v] w (Ret w (.bool true)) := by
  have hal : a.n = ls.length := by have := ha.len; simpa using this
  have hK0 : 0 ≤ n % 60 := Int.emod_nonneg _ (by omega)
  have hK1 : n % 60 < 60 := Int.emod_lt_of_pos _ (by omega)
  have hwk : IntKind.i64.wrap (n % 60) = n % 60 := wrap64 (by omega) (by omega)
  refine vc_5 w n a _ fun w0 hw0 => ⟨_, ⟨c30⟩, fun e w3 ⟨he, hb3⟩ => ⟨true, he, Below.keeps hb3, fun hx => by simp at hx, fun _ => ⟨fun _ w6 hn6 _ => ⟨rfl, ?_⟩, fun ha60 w7 hn7 => ?_⟩⟩⟩
  · exact toB (mid_now (mid_below (.now' hw0 fun _ h => h) hb3) hn6 fun _ h => .inl h)
  have ha60 : ls.length ≤ 100 := by rw [hal] at ha60; simp at ha60; omega
  have u7 : Upto w.heap.size no w w7 := mid_now (mid_below (.now' hw0 fun _ h => h) hb3) hn7 fun _ h => .inl h
  refine ⟨_, ⟨c31⟩, fun e w10 ⟨p, he, hp, hbag, hb10⟩ => ⟨⟨p, 0, none⟩, he, Below.keeps hb10, _, fun _ => pr_rem 5 .u8 hn0 (by omega), ?_⟩⟩
  have a10 : BagAt (fun b => (b < w.heap.size ∨ w0.heap.size ≤ b ∧ b < w3.heap.size) ∨ w7.heap.size ≤ b ∧ b < w10.heap.size) w w10 p SL.nil [] := by
    have hb : ∀ b, ofBag p SL.nil b → b = p := fun b hb => hb.elim id fun e => by simp [SL.nil, SL.v, Value.ownBlock] at e
    exact ⟨hbag, fun b h => by rw [hb b h]; exact .inr ⟨hp, hbag.lt⟩, fun b h => by rw [hb b h]; exact Nat.le_trans u7.size hp, mid_below u7 hb10, fun b h => .inl (.inl h)⟩
  rw [hwk]
  generalize hK : n % 60 = K' at *
  obtain ⟨K, rfl⟩ : ∃ k : Nat, K' = k := ⟨K'.toNat, by omega⟩
  have hK60 : K < 60 := by omega
  have hat : ∀ q : Nat, q < 60 → IntKind.i64.wrap (IntKind.i64.wrap (tM (q : Int)).sq - 1) = q := fun q hq => by
    show IntKind.i64.wrap (IntKind.i64.wrap ((q : Int) + 1) - 1) = q
    rw [wrap64 (i := (q : Int) + 1) (by omega) (by omega), show (q : Int) + 1 - 1 = q by omega, wrap64 (by omega) (by omega)]
  refine ⟨fun x => ∃ i : Nat, i ≤ K ∧ x.1 = i ∧ ∃ s, BagAt x.2.2 w x.2.1 p s ((List.range i).map tq), fun x => (K - x.1).toNat,
    ⟨by trivial, (0, w10, _), ⟨0, by omega, rfl, SL.nil, a10⟩, rfl, rfl, ⟨rfl, trivial⟩, trivial⟩, fun x ⟨i, hi, hx, s, hbg⟩ => ⟨fun hlt => ?_, fun hge => ?_⟩⟩
  · obtain ⟨i', W, NL⟩ := x
    simp only at hx hbg hlt ⊢
    subst hx
    have hlt : i < K := by have := of_decide_eq_true hlt; omega
    intro w17 hn17
    have b17 := hbg.now hn17
    rw [wrap32 (i := (i : Int)) (by omega) (by omega), wrap32 (i := (i : Int) + 1) (by omega) (by omega)]
    have k := c32 b17.bag (bare_t i) (by simp [tM]) (by simp [tM]) (by simp; omega)
    rw [sent_t (by omega) (by omega) (by simp; omega)] at k
    refine ⟨_, ⟨k⟩, fun e w20 ⟨s1, he, hb, hu, hm⟩ => ⟨0, he, b17.keeps hu, fun hx => by simp at hx, fun _ => ⟨by trivial, ((i : Int) + 1, w20, _), ⟨i + 1, by omega, by simp, s1, ?_⟩, by simp; omega, rfl, rfl, ⟨by rw [wrap64 (by omega) (by omega)], trivial⟩, trivial⟩⟩⟩
    have b20 := b17.call hb hu hm
    rw [List.range_succ, List.map_append]
    exact b20
  · obtain ⟨i', W, NL⟩ := x
    simp only at hx hbg hge ⊢
    subst hx
    have hge : K ≤ i := by have := of_decide_eq_false hge; omega
    obtain rfl : i = K := by omega
    intro w24 hn24
    have b24 := hbg.now hn24
    rw [← un_new i (by omega)] at b24
    have t24 := TakAt.new b24 (bs := List.replicate 60 false) (by simp)
    generalize hB : w24.heap.size = B at *
    refine ⟨fun x => 0 ≤ x.1 ∧ ∃ s bs, TakAt x.2.2 w x.2.1 p s ((un bs i).map tq) B bs ∧ ((un bs i).length : Int) = i - x.1, fun x => (i - x.1).toNat,
      ⟨by trivial, (0, _, _), ⟨by simp, s, _, t24, by rw [un_new i (by omega)]; simp⟩, rfl, rfl, ⟨rfl, trivial⟩, trivial⟩, fun x ⟨hx0, s, bs, ht, hlen⟩ => ?_⟩
    clear b24 t24 hbg
    generalize i = K at *
    obtain ⟨iv, W, NL⟩ := x
    simp only at hx0 ht hlen ⊢
    have t28 := ht
    have hbl := ht.len
    have hml : (((un bs K).map tq).length : Int) = (un bs K).length := by simp
    refine ⟨_, fun _ w30 hn30 => callsE (c33 (ht.now hn30).bag.bag), fun hpos => ?_, fun hneg => ?_⟩
    · have hpos : 0 < (un bs K).length := by have := of_decide_eq_true hpos; omega
      have herase : ∀ (kn q : Nat), (un bs K)[kn]? = some q → ((un bs K).map tq).eraseIdx kn = (un (bs.set q true) K).map tq := fun kn q h => by
        rw [map_eraseIdx', un_erase h]
      have hlenn : ∀ (kn q : Nat), (un bs K)[kn]? = some q → (un (bs.set q true) K).length = (un bs K).length - 1 := fun kn q h => by
        rw [← un_erase h, List.length_eraseIdx_of_lt (List.getElem?_eq_some_iff.1 h).1]
      refine ⟨fun hlt => ⟨by trivial, ?_⟩, fun _ => ?_⟩
      · have hlt : iv < (a.n : Int) := by simpa using hlt
        obtain ⟨qa, r, hqa, hr, hqb, hqc, hqn⟩ := (ha.upto ht.bag.up).get hx0 hlt
        simp only [List.getElem?_map, Option.map_eq_some_iff] at hr
        obtain ⟨x, hx, rfl⟩ := hr
        have hxr := hls x (List.mem_of_getElem? hx)
        have ra := run_index (P := Tryd.prog) und45 info5 hqa hx0 hqn
        rw [size5] at ra
        have hwx : IntKind.i64.wrap x = x := wrap64 (by omega) (by omega)
        have hblk : (qa.add (iv.toNat * 1)).block < w.heap.size := by
          obtain ⟨q', hq', hlt', _⟩ := ha.row iv.toNat (l8 x) (by simp [hx])
          rw [hqa] at hq'
          obtain rfl := Option.some.inj hq'
          rw [Go.Pal.add_block]; exact hlt'
        refine ⟨_, fun _ => ra, x, fun _ => ⟨hqc, ht.bag.low _ hblk⟩, _, fun _ w36 hn36 => callsE (c33 (ht.now hn36).bag.bag), _, fun _ => by rw [hwx]; exact pr_rem 3 .i64 hxr.1 (by omega), ?_⟩
        have hk0 : 0 ≤ x % (((un bs K).map tq).length : Int) := Int.emod_nonneg _ (by omega)
        have hk1 : x % (((un bs K).map tq).length : Int) < ((un bs K).map tq).length := Int.emod_lt_of_pos _ (by omega)
        generalize hkk : x % (((un bs K).map tq).length : Int) = k at *
        obtain ⟨kn, rfl⟩ : ∃ kn : Nat, k = kn := ⟨k.toNat, by omega⟩
        have hkl : kn < (un bs K).length := by omega
        have hget0 := List.getElem?_eq_getElem hkl
        obtain ⟨hqK, hqs⟩ := un_mem (List.mem_of_getElem? hget0)
        generalize (un bs K)[kn] = q at *
        have hget : ((un bs K).map tq)[kn]? = some (tM (q : Int)) := by rw [List.getElem?_map, hget0]; rfl
        have hq60 : q < 60 := by omega
        refine ⟨tM (q : Int), true, fun _ w42 hn42 => callsE (c34a (t28.now hn42).bag.bag (k := kn) hget), fun w45 hn45 => ?_⟩
        have t45 := t28.now hn45
        have k35 := c35a t45.bag.bag (k := kn) hget
        rw [herase _ _ hget0] at k35
        refine ⟨_, ⟨k35⟩, fun e w48 ⟨s', he, hb, hu, hm⟩ => ⟨tM (q : Int), 0, he, t45.bag.keeps hu, ⟨B, q, none⟩, fun _ => ?_, false, fun _ => ⟨(t45.call hb hu hm).get hqs, (t45.call hb hu hm).nl⟩, fun hx => ?_, fun _ => ⟨⟨B, q, none⟩, fun _ => ?_, ?_⟩⟩⟩
        · rw [hat q hq60]; exact index70 _ _ hq60
        · exfalso
          rw [hat q hq60] at hx
          simp at hx
          omega
        · rw [hat q hq60]; exact index70 _ _ hq60
        · have t48 := t45.call hb hu hm
          obtain ⟨w55, hst, t55⟩ := t48.set q hq60
          have hll := hlenn _ _ hget0
          generalize hbs' : bs.set q true = bs' at *
          refine ⟨w55, hst, fun x => ∃ j : Nat, j ≤ K ∧ x.2.1 = j ∧ x.1 = (un bs' j).length ∧ x.2.2.1 = w55 ∧ x.2.2.2 = andR NL w45 w48, fun x => (K - x.2.1).toNat, ⟨by trivial, (0, 0, w55, andR NL w45 w48), ⟨0, by omega, rfl, rfl, rfl, rfl⟩, rfl, rfl, ⟨rfl, rfl, trivial⟩, trivial⟩, fun x ⟨j, hj, hx2, hx1, hx3, hx4⟩ => ⟨fun hlt => ?_, fun hge => ?_⟩⟩
          · obtain ⟨u, i, W2, NL2⟩ := x
            simp only at hx1 hx2 hx3 hx4 hlt ⊢
            subst hx1 hx2 hx3 hx4
            have hjk : j < K := by have := of_decide_eq_true hlt; omega
            have hjl : j < bs'.length := by have := t55.len; omega
            have hbj : bs'[j]? = some (bs'[j]) := List.getElem?_eq_getElem hjl
            have hul : (un bs' j).length ≤ j := by
              have := List.length_filter_le (fun q => bs'[q]? == some false) (List.range j); simpa [un] using this
            have hus := un_succ bs' j
            rw [hbj] at hus
            refine ⟨⟨B, j, none⟩, fun _ => index70 _ _ (by omega), bs'[j], fun _ => ⟨t55.get hbj, t55.nl⟩, fun hb => ⟨by trivial, (((un bs' j).length : Int) + 1, (j : Int) + 1, W2, _), ⟨j + 1, by omega, by simp, ?_, rfl, rfl⟩, by simp; omega, rfl, rfl, ⟨by rw [wrap64 (by omega) (by omega)], by rw [wrap64 (by omega) (by omega)], trivial⟩, trivial⟩, fun hb => ⟨by trivial, (((un bs' j).length : Int), (j : Int) + 1, W2, _), ⟨j + 1, by omega, by simp, ?_, rfl, rfl⟩, by simp; omega, rfl, rfl, ⟨rfl, by rw [wrap64 (by omega) (by omega)], trivial⟩, trivial⟩⟩
            · have hb : bs'[j] = false := by simpa using hb
              rw [hus, if_pos (by rw [hb])]; simp
            · have hb : bs'[j] = true := by simpa using hb
              rw [hus, if_neg (by rw [hb]; simp)]; simp
          · obtain ⟨u, i, W2, NL2⟩ := x
            simp only at hx1 hx2 hx3 hx4 hge ⊢
            subst hx1 hx2 hx3 hx4
            have hjk : j = K := by have := of_decide_eq_false hge; omega
            subst hjk
            refine ⟨_, fun _ w65 hn65 => callsE (c33 (t55.now hn65).bag.bag), fun hx => by simp at hx, fun _ => ⟨by trivial, (iv + 1, W2, _), ⟨by simp; omega, s', _, t55, by simp; omega⟩, by simp; omega, rfl, rfl, ⟨by rw [wrap64 (by omega) (by omega)], trivial⟩, trivial⟩⟩
      · have hget0 := List.getElem?_eq_getElem hpos
        obtain ⟨hqK, hqs⟩ := un_mem (List.mem_of_getElem? hget0)
        generalize (un bs K)[0] = q at *
        have hget : ((un bs K).map tq)[0]? = some (tM (q : Int)) := by rw [List.getElem?_map, hget0]; rfl
        have hq60 : q < 60 := by omega
        refine ⟨tM (q : Int), true, fun _ w42 hn42 => callsE (c34a (t28.now hn42).bag.bag (k := 0) hget), fun w45 hn45 => ?_⟩
        have t45 := t28.now hn45
        have k35 := c35a t45.bag.bag (k := 0) hget
        rw [herase _ _ hget0] at k35
        refine ⟨_, ⟨k35⟩, fun e w48 ⟨s', he, hb, hu, hm⟩ => ⟨tM (q : Int), 0, he, t45.bag.keeps hu, ⟨B, q, none⟩, fun _ => ?_, false, fun _ => ⟨(t45.call hb hu hm).get hqs, (t45.call hb hu hm).nl⟩, fun hx => ?_, fun _ => ⟨⟨B, q, none⟩, fun _ => ?_, ?_⟩⟩⟩
        · rw [hat q hq60]; exact index70 _ _ hq60
        · exfalso
          rw [hat q hq60] at hx
          simp at hx
          omega
        · rw [hat q hq60]; exact index70 _ _ hq60
        · have t48 := t45.call hb hu hm
          obtain ⟨w55, hst, t55⟩ := t48.set q hq60
          have hll := hlenn _ _ hget0
          generalize hbs' : bs.set q true = bs' at *
          refine ⟨w55, hst, fun x => ∃ j : Nat, j ≤ K ∧ x.2.1 = j ∧ x.1 = (un bs' j).length ∧ x.2.2.1 = w55 ∧ x.2.2.2 = andR NL w45 w48, fun x => (K - x.2.1).toNat, ⟨by trivial, (0, 0, w55, andR NL w45 w48), ⟨0, by omega, rfl, rfl, rfl, rfl⟩, rfl, rfl, ⟨rfl, rfl, trivial⟩, trivial⟩, fun x ⟨j, hj, hx2, hx1, hx3, hx4⟩ => ⟨fun hlt => ?_, fun hge => ?_⟩⟩
          · obtain ⟨u, i, W2, NL2⟩ := x
            simp only at hx1 hx2 hx3 hx4 hlt ⊢
            subst hx1 hx2 hx3 hx4
            have hjk : j < K := by have := of_decide_eq_true hlt; omega
            have hjl : j < bs'.length := by have := t55.len; omega
            have hbj : bs'[j]? = some (bs'[j]) := List.getElem?_eq_getElem hjl
            have hul : (un bs' j).length ≤ j := by
              have := List.length_filter_le (fun q => bs'[q]? == some false) (List.range j); simpa [un] using this
            have hus := un_succ bs' j
            rw [hbj] at hus
            refine ⟨⟨B, j, none⟩, fun _ => index70 _ _ (by omega), bs'[j], fun _ => ⟨t55.get hbj, t55.nl⟩, fun hb => ⟨by trivial, (((un bs' j).length : Int) + 1, (j : Int) + 1, W2, _), ⟨j + 1, by omega, by simp, ?_, rfl, rfl⟩, by simp; omega, rfl, rfl, ⟨by rw [wrap64 (by omega) (by omega)], by rw [wrap64 (by omega) (by omega)], trivial⟩, trivial⟩, fun hb => ⟨by trivial, (((un bs' j).length : Int), (j : Int) + 1, W2, _), ⟨j + 1, by omega, by simp, ?_, rfl, rfl⟩, by simp; omega, rfl, rfl, ⟨rfl, by rw [wrap64 (by omega) (by omega)], trivial⟩, trivial⟩⟩
            · have hb : bs'[j] = false := by simpa using hb
              rw [hus, if_pos (by rw [hb])]; simp
            · have hb : bs'[j] = true := by simpa using hb
              rw [hus, if_neg (by rw [hb]; simp)]; simp
          · obtain ⟨u, i, W2, NL2⟩ := x
            simp only at hx1 hx2 hx3 hx4 hge ⊢
            subst hx1 hx2 hx3 hx4
            have hjk : j = K := by have := of_decide_eq_false hge; omega
            subst hjk
            refine ⟨_, fun _ w65 hn65 => callsE (c33 (t55.now hn65).bag.bag), fun hx => by simp at hx, fun _ => ⟨by trivial, (iv + 1, W2, _), ⟨by simp; omega, s', _, t55, by simp; omega⟩, by simp; omega, rfl, rfl, ⟨by rw [wrap64 (by omega) (by omega)], trivial⟩, trivial⟩⟩
    · have hneg : (un bs K).length = 0 := by have := of_decide_eq_false hneg; omega
      have he : ((((un bs K).map tq).length : Nat) : Int) ≤ 0 := by omega
      intro w100 hn100
      have t100 := ht.now hn100
      refine ⟨_, ⟨c35b t100.bag.bag (.inr he)⟩, fun e w103 ⟨he1, hb1⟩ => ⟨MGz, 61, he1, Below.keeps hb1, fun _ w106 hn106 => ?_, fun hx => by simp at hx⟩⟩
      have t106 := (t100.quiet hb1).now hn106
      refine ⟨_, ⟨c36b t106.bag.bag (.inr he)⟩, fun e w109 ⟨he2, hb2⟩ => ⟨61, he2, Below.keeps hb2, fun _ w111 hn111 => ?_, fun hx => by simp at hx⟩⟩
      have t111 := (t106.quiet hb2).now hn111
      refine ⟨_, ⟨c37b t111.bag.bag (.inr he)⟩, fun e w114 ⟨he3, hb3⟩ => ⟨61, he3, Below.keeps hb3, fun w116 hn116 _ => ⟨by simp, ?_⟩⟩⟩
      exact ((t111.quiet hb3).now hn116).bag.below
end Go.Proofs.YtboedgnahmibcaaDoor
