/- Part of the proofs of this seat: lemmas about calls of functions of the program (Con15); each states its own conditions. -/
import Derived.Test.YtboedgnahmibcaaDoorCon14
import Derived.Test.YtboedgnahmibcaaDoorVcL8
set_option linter.unusedVariables false
set_option linter.unusedSimpArgs false
namespace Go.Proofs.YtboedgnahmibcaaDoor
open Go Go.Eng Go.RowKit Go.Pal

theorem pr_rem (t : TypeId) (k : IntKind) {a b : Int} (h0 : 0 ≤ a) (hb : 0 < b) : PureRuns Tryd.prog (binOp .rem t (.int k a) (.int k b)) (.int k (a % b)) :=
  ⟨fun w => by
    have : b ≠ 0 := by omega
    simp [binOp_rem, Op.intDiv, this, Int.tmod_eq_emod_of_nonneg h0]⟩
theorem wrap8 {i : Int} (h0 : 0 ≤ i) (h : i < 256) : IntKind.u8.wrap i = i := by
  simp only [IntKind.wrap, IntKind.signed, IntKind.bits]
  first | omega | (simp; omega) | (split <;> omega)
theorem wrap32 {i : Int} (h0 : 0 ≤ i) (h : i < 4294967296) : IntKind.u32.wrap i = i := by
  simp only [IntKind.wrap, IntKind.signed, IntKind.bits]
  first | omega | (simp; omega) | (split <;> omega)

/-- Queries alone. -/
def Qs (ms : List MG) : Prop := ∀ m ∈ ms, ∃ t : Int, t < 4 ∧ m = qM t
theorem own_n {w : World} {base : Nat} {s : SL} {n : Nat} {xs : List Value} {e sz : Nat} (h : w.ownsRow base e sz s.v n xs) : s.n = n := by
  rcases h.2 with ⟨hv, hn⟩ | ⟨g, cap, cur, hv, _⟩
  · simp only [SL.v, Value.slice.injEq] at hv; omega
  · simp only [SL.v, Value.slice.injEq] at hv; omega

theorem c8 {w : World} {n u : Int} (hn0 : 0 ≤ n) (hn1 : n < 65536) (hu0 : 0 ≤ u) (hu1 : u < 256) : Calls Tryd.prog 8 #[.int .u16 n, .int .u8 u] w (Ret w (.bool true)) := by
  have hK0 : 0 ≤ n % 500 := Int.emod_nonneg _ (by omega)
  have hK1 : n % 500 < 500 := Int.emod_lt_of_pos _ (by omega)
  have hwk : IntKind.i64.wrap (n % 500) = n % 500 := wrap64 (by omega) (by omega)
  have hwu : IntKind.i64.wrap u = u := wrap64 (by omega) (by omega)
  refine vc_8 w n u _ fun w0 hw0 => ⟨_, ⟨c30⟩, fun e w3 ⟨he, hb3⟩ => ⟨true, he, Below.keeps hb3, fun hx => by simp at hx, fun _ w6 hn6 => ?_⟩⟩
  have u6 : Upto w.heap.size no w w6 := mid_now (mid_below (.now' hw0 fun _ h => h) hb3) hn6 fun _ h => .inl h
  refine ⟨_, ⟨c31⟩, fun e w9 ⟨p, he, hp, hbag, hb9⟩ => ⟨⟨p, 0, none⟩, he, Below.keeps hb9, _, fun _ => pr_rem 28 .u16 hn0 (by omega), ?_⟩⟩
  generalize hK : n % 500 = K at *
  rw [hwk, hwu]
  have a9 : BagAt (fun b => (b < w.heap.size ∨ w0.heap.size ≤ b ∧ b < w3.heap.size) ∨ w6.heap.size ≤ b ∧ b < w9.heap.size) w w9 p SL.nil [] := by
    have hb : ∀ b, ofBag p SL.nil b → b = p := fun b hb => hb.elim id fun e => by simp [SL.nil, SL.v, Value.ownBlock] at e
    exact ⟨hbag, fun b h => by rw [hb b h]; exact .inr ⟨hp, hbag.lt⟩, fun b h => by rw [hb b h]; exact Nat.le_trans u6.size hp, mid_below u6 hb9, fun b h => .inl (.inl h)⟩
  refine ⟨fun x => 0 ≤ x.1 ∧ x.1 ≤ K ∧ ∃ s ms, BagAt x.2.2 w x.2.1 p s ms ∧ Qs ms ∧ (ms.length : Int) = if x.1 < 400 then x.1 else 400, fun x => (K - x.1).toNat,
    ⟨rfl, (0, w9, _), ⟨by simp, hK0, SL.nil, [], a9, (fun m hm => by cases hm), by simp⟩, rfl, rfl, ⟨rfl, trivial⟩, trivial⟩, fun x ⟨hx0, hx1, s, ms, ha, hq, hlen⟩ => ⟨fun hlt => ?_, fun hge => ?_⟩⟩
  · -- a message more
    obtain ⟨i, W, NL⟩ := x
    simp only at hx0 hx1 ha hlen hlt ⊢
    have hlt : i < K := by simpa using hlt
    have h3 : 0 ≤ i % 3 := Int.emod_nonneg _ (by omega)
    have h3' : i % 3 < 3 := Int.emod_lt_of_pos _ (by omega)
    have hl400 : ms.length ≤ 400 := by split at hlen <;> omega
    refine ⟨_, fun _ => pr_rem 3 .i64 hx0 (by omega), qM (i % 3 + 1), fun _ w18 hn => ?_, fun w21 hn21 => ?_⟩
    · rw [wrap8 h3 (by omega), wrap8 (by omega) (by omega)]
      exact callsE (c41 _)
    have a21 := ha.now hn21
    have k := c32 a21.bag (bare_q (i % 3 + 1)) (by simp [qM]) (by simp [qM]) (by omega)
    have hB := isB_q (i % 3 + 1) (by omega)
    by_cases h4 : i < 400
    · rw [if_pos h4] at hlen
      have hs : sent ms (qM (i % 3 + 1)) = (0, ms ++ [qM (i % 3 + 1)]) := by simp [sent, hB]; omega
      rw [hs] at k
      refine ⟨_, ⟨k⟩, fun e w24 ⟨s1, he, hb, hu, hm⟩ => ⟨0, he, a21.keeps hu, fun hx => by simp [h4] at hx, fun _ => ⟨by trivial, (i + 1, w24, _), ⟨by simp; omega, by simp; omega, s1, _, a21.call hb hu hm, ?_, ?_⟩, by simp; omega, rfl, rfl, ⟨by rw [wrap64 (by omega) (by omega)], trivial⟩, trivial⟩⟩⟩
      · intro m hmm
        rcases List.mem_append.1 hmm with h | h
        · exact hq m h
        · exact ⟨i % 3 + 1, by omega, by simpa using h⟩
      · simp only [List.length_append, List.length_cons, List.length_nil]
        split <;> omega
    · rw [if_neg h4] at hlen
      have hs : sent ms (qM (i % 3 + 1)) = (60, ms) := by simp [sent, hB]; omega
      rw [hs] at k
      refine ⟨_, ⟨k⟩, fun e w24 ⟨s1, he, hb, hu, hm⟩ => ⟨60, he, a21.keeps hu, fun hx => by simp [h4] at hx, fun _ => ⟨by trivial, (i + 1, w24, _), ⟨by simp; omega, by simp; omega, s1, _, a21.call hb hu hm, hq, ?_⟩, by simp; omega, rfl, rfl, ⟨by rw [wrap64 (by omega) (by omega)], trivial⟩, trivial⟩⟩⟩
      simp only
      rw [if_neg (by omega)]
      exact hlen
  · obtain ⟨i, W, NL⟩ := x
    simp only at hx0 hx1 ha hlen hge ⊢
    have hge : K ≤ i := by simpa using hge
    obtain rfl : i = K := by omega
    refine ⟨fun x => 0 ≤ x.1 ∧ 0 ≤ x.2.1 ∧ x.2.1 ≤ 400 ∧ ∃ s ms, BagAt x.2.2.2 w x.2.2.1 p s ms ∧ Qs ms ∧ (ms.length : Int) = x.2.1, fun x => (u - x.1).toNat,
      ⟨by trivial, (0, (if (400 : Int) < i then 400 else i), W, NL), ⟨by simp, ?_, ?_, s, ms, ha, hq, ?_⟩, rfl, rfl, ⟨rfl, rfl, trivial⟩, trivial⟩, fun x ⟨hy0, hy1, hy2, s, ms, ha, hq, hlen⟩ => ⟨fun hlt => ⟨fun h4 => ?_, fun h4 => ⟨fun hx => by simp at hx, fun _ => ?_⟩⟩, fun hge => ?_⟩⟩
    · dsimp only; split <;> omega
    · dsimp only; split <;> omega
    · dsimp only; rw [hlen]; split <;> split <;> omega
    · obtain ⟨j, k, W, NL⟩ := x
      simp only at hy0 hy1 hy2 ha hlen hlt h4 ⊢
      have hlt : j < u ∧ 0 < k := by simpa using hlt
      have h4 : k = 400 := by simpa using h4
      intro w32 hn32
      have a32 := ha.now hn32
      have hpos : 0 < ms.length := by omega
      obtain ⟨t, ht, hm0⟩ := hq _ (List.getElem_mem hpos)
      have kk := c37a a32.bag (by omega) (k := 0) (m := qM t) (by rw [← hm0]; exact List.getElem?_eq_getElem hpos) (by simp [qM]) (by simp [qM])
      have hs : sent ms (qM t) = (60, ms) := by simp [sent, isB_q t ht]; omega
      rw [hs] at kk
      refine ⟨_, ⟨kk⟩, fun e w35 ⟨s1, he, hb, hu, hm⟩ => ⟨60, he, a32.keeps hu, fun hx => by simp at hx, fun _ => ⟨_, fun _ => pr_rem 3 .i64 hu0 (by omega), fun w39 hn39 => ?_⟩⟩⟩
      have a39 := (a32.call hb hu hm).now hn39
      have hr0 : 0 ≤ u % k := Int.emod_nonneg _ (by omega)
      have hr1 : u % k < k := Int.emod_lt_of_pos _ (by omega)
      have k2 := c36a a39.bag (k := (u % k).toNat) (by show (u % k).toNat < ms.length; omega)
      rw [Int.toNat_of_nonneg hr0] at k2
      refine ⟨_, ⟨k2⟩, fun e w42 ⟨s2, he, hb2, hu2, hm2⟩ => ⟨0, he, a39.keeps hu2, fun hx => by simp at hx, fun _ => ⟨by trivial, (j + 1, k - 1, w42, _), ⟨by simp; omega, by simp; omega, by simp; omega, s2, _, a39.call hb2 hu2 hm2, fun m hmm => hq m (List.mem_of_mem_eraseIdx hmm), ?_⟩, by simp; omega, rfl, rfl, ⟨by rw [wrap64 (by omega) (by omega)], by rw [wrap64 (by omega) (by omega)], trivial⟩, trivial⟩⟩⟩
      simp only [List.length_eraseIdx_of_lt (show (u % k).toNat < ms.length by omega)]
      omega
    · obtain ⟨j, k, W, NL⟩ := x
      simp only at hy0 hy1 hy2 ha hlen hlt h4 ⊢
      have hlt : j < u ∧ 0 < k := by simpa using hlt
      refine ⟨_, fun _ => pr_rem 3 .i64 hu0 (by omega), fun w39 hn39 => ?_⟩
      have a39 := ha.now hn39
      have hr0 : 0 ≤ u % k := Int.emod_nonneg _ (by omega)
      have hr1 : u % k < k := Int.emod_lt_of_pos _ (by omega)
      have k2 := c36a a39.bag (k := (u % k).toNat) (by show (u % k).toNat < ms.length; omega)
      rw [Int.toNat_of_nonneg hr0] at k2
      refine ⟨_, ⟨k2⟩, fun e w42 ⟨s2, he, hb2, hu2, hm2⟩ => ⟨0, he, a39.keeps hu2, fun hx => by simp at hx, fun _ => ⟨by trivial, (j + 1, k - 1, w42, _), ⟨by simp; omega, by simp; omega, by simp; omega, s2, _, a39.call hb2 hu2 hm2, fun m hmm => hq m (List.mem_of_mem_eraseIdx hmm), ?_⟩, by simp; omega, rfl, rfl, ⟨by rw [wrap64 (by omega) (by omega)], by rw [wrap64 (by omega) (by omega)], trivial⟩, trivial⟩⟩⟩
      simp only [List.length_eraseIdx_of_lt (show (u % k).toNat < ms.length by omega)]
      omega
    · obtain ⟨j, k, W, NL⟩ := x
      simp only at hy0 hy1 hy2 ha hlen ⊢
      refine ⟨ms.length, fun _ w56 hn => callsE (c33 (ha.now hn).bag), fun _ w59 hn59 => ⟨_, ⟨c38 (ha.now hn59).bag⟩, fun e w62 ⟨s', he, hb, hown⟩ => ⟨s', he, Below.keeps hb, fun w64 hn64 _ => ⟨?_, (((ha.now hn59).quiet hb).now hn64).below⟩⟩⟩, fun hx => ?_⟩
      · rw [own_n hown, hlen]; simp
      · simp [hlen] at hx
end Go.Proofs.YtboedgnahmibcaaDoor
