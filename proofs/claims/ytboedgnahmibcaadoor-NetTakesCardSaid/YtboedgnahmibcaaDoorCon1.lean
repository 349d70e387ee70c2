/- Part of the proofs of this seat: lemmas about calls of functions of the program (Con1); each states its own conditions. -/
import Derived.Test.YtboedgnahmibcaaDoorMem
import Derived.Test.YtboedgnahmibcaaDoorVc1
set_option linter.unusedVariables false
set_option linter.unusedSimpArgs false
namespace Go.Proofs.YtboedgnahmibcaaDoor
open Go Go.Eng Go.RowKit Go.Pal

def Ret (w : World) (v : Value) : Ending → World → Prop := fun e w2 => e = .returned v ∧ Below w.heap.size w w2

theorem und44 : Tryd.prog.underlying 44 = some (.slice 38) := by kernel_rfl
theorem und45 : Tryd.prog.underlying 45 = some (.slice 5) := by kernel_rfl

def l64 (n : Int) : List Value := [.int .u64 n]
def l8 (n : Int) : List Value := [.int .u8 n]

theorem inf38 : ∃ i, Tryd.prog.info? 38 = some i ∧ i.size = 1 := by
  exact ⟨_, (by kernel_rfl : Tryd.prog.info? 38 = some ((Tryd.prog.info? 38).getD default)), by kernel_rfl⟩

theorem take_succ_eq {α : Type} [DecidableEq α] {xs ys : List α} {i : Nat} {x : α} (h : xs.take i = ys.take i) (hx : xs[i]? = some x) (hy : ys[i]? = some x) : xs.take (i + 1) = ys.take (i + 1) := by
  rw [List.take_add_one, List.take_add_one, h, hx, hy]

theorem c87 {w : World} {a b : SL} {xs ys : List Int} (ha : RowsOf w 1 a (xs.map l64)) (hb : RowsOf w 1 b (ys.map l64)) : Calls Tryd.prog 87 #[a.v, b.v] w (Ret w (.bool (decide (xs = ys)))) := by
  obtain ⟨i38, hi, hs⟩ := inf38
  have la := ha.len; have lb := hb.len; have lt := ha.lt
  simp only [List.length_map] at la lb
  refine vc_87 w a b _ ?_
  simp only [true_and, and_true, forall_const]
  refine ⟨fun h w0 hn => ⟨?_, hn.toBelow⟩, fun h => ⟨fun i => 0 ≤ i ∧ i ≤ a.n ∧ a.n = b.n ∧ xs.take i.toNat = ys.take i.toNat, fun i => (a.n - i).toNat, ⟨0, ⟨Int.le_refl _, by omega, ?_, by simp⟩, rfl⟩, fun n ⟨h0, h1, h2, h3⟩ => ⟨fun hlt => ?_, fun hge w0 hn => ⟨?_, hn.toBelow⟩⟩⟩⟩
  · have : xs ≠ ys := fun e => by subst e; simp only [bne_iff_ne, ne_eq] at h; omega
    simp [this]
  · simp at h; omega
  · simp only [decide_eq_true_eq] at hlt
    obtain ⟨p, r, hp, hr, hpb, hpc, hpn⟩ := ha.get h0 hlt
    obtain ⟨q, r', hq, hr', hqb, hqc, hqn⟩ := hb.get h0 (by omega : n < (b.n : Int))
    simp only [List.getElem?_map, Option.map_eq_some_iff] at hr hr'
    obtain ⟨x, hx, rfl⟩ := hr
    obtain ⟨y, hy, rfl⟩ := hr'
    have ra := run_index und44 hi hp h0 hpn
    have rb := run_index und44 hi hq h0 hqn
    rw [hs] at ra rb
    refine ⟨_, ra, x, ⟨hpc, hpb⟩, _, rb, y, ⟨hqc, hqb⟩, fun h w7 hn => ⟨?_, hn.toBelow⟩, fun h => ⟨n + 1, ⟨by omega, by omega, h2, ?_⟩, ?_, ?_⟩⟩
    · have : xs ≠ ys := fun e => by subst e; rw [hx] at hy; simp at h hy; exact h hy
      simp [this]
    · have : (n + 1).toNat = n.toNat + 1 := by omega
      rw [this]
      simp at h
      subst h
      exact take_succ_eq h3 hx hy
    · dsimp only; omega
    · rw [wrap64 (by omega) (by omega)]
  · simp only [decide_eq_false_iff_not] at hge
    have : n.toNat = xs.length := by omega
    rw [this, List.take_length] at h3
    have e : xs = ys := by rw [h3, List.take_of_length_le (by omega)]
    simp [e]
theorem und39 : Tryd.prog.underlying 39 = some (.slice 94) := by kernel_rfl
theorem und40 : Tryd.prog.underlying 40 = some (.slice 92) := by kernel_rfl
theorem inf5 : ∃ i, Tryd.prog.info? 5 = some i ∧ i.size = 1 := by
  exact ⟨_, (by kernel_rfl : Tryd.prog.info? 5 = some ((Tryd.prog.info? 5).getD default)), by kernel_rfl⟩
theorem inf94 : ∃ i, Tryd.prog.info? 94 = some i ∧ i.size = 2 := by
  exact ⟨_, (by kernel_rfl : Tryd.prog.info? 94 = some ((Tryd.prog.info? 94).getD default)), by kernel_rfl⟩
theorem inf92 : ∃ i, Tryd.prog.info? 92 = some i ∧ i.size = 7 := by
  exact ⟨_, (by kernel_rfl : Tryd.prog.info? 92 = some ((Tryd.prog.info? 92).getD default)), by kernel_rfl⟩
theorem MK.eqs {x y : MK} (h : (!(some (andO (x.sq == y.sq) (some (andO (x.rt == y.rt) none)))).getD true) = false) : x = y := by
  cases x; cases y; simp [andO] at h; simp [h]
theorem EN.eqs {x y : EN} (h : (!(some (andO (x.sq == y.sq) (some (andO (x.vi == y.vi) (some (andO ((some (andO (x.rq.c == y.rq.c) (some (andO (x.rq.t == y.rq.t) (some (andO ((some (andO (x.rq.k == y.rq.k) (some (andO (x.rq.y == y.rq.y) (some (andO (x.rq.vl == y.rq.vl) none)))))).getD true) none)))))).getD true) none)))))).getD true) = false) : x = y := by
  obtain ⟨a, b, ⟨c, d, e, f, g⟩⟩ := x; obtain ⟨a', b', ⟨c', d', e', f', g'⟩⟩ := y; simp [andO] at h; simp [h]
theorem c88 {w : World} {a b : SL} {xs ys : List Int} (ha : RowsOf w 1 a (xs.map l8)) (hb : RowsOf w 1 b (ys.map l8)) : Calls Tryd.prog 88 #[a.v, b.v] w (Ret w (.bool (decide (xs = ys)))) := by
  obtain ⟨i5, hi, hs⟩ := inf5
  have la := ha.len; have lb := hb.len; have lt := ha.lt
  simp only [List.length_map] at la lb
  refine vc_88 w a b _ ?_
  simp only [true_and, and_true, forall_const]
  refine ⟨fun h w0 hn => ⟨?_, hn.toBelow⟩, fun h => ⟨fun i => 0 ≤ i ∧ i ≤ a.n ∧ a.n = b.n ∧ xs.take i.toNat = ys.take i.toNat, fun i => (a.n - i).toNat, ⟨0, ⟨Int.le_refl _, by omega, ?_, by simp⟩, rfl⟩, fun n ⟨h0, h1, h2, h3⟩ => ⟨fun hlt => ?_, fun hge w0 hn => ⟨?_, hn.toBelow⟩⟩⟩⟩
  · have : xs ≠ ys := fun e => by subst e; simp only [bne_iff_ne, ne_eq] at h; omega
    simp [this]
  · simp at h; omega
  · simp only [decide_eq_true_eq] at hlt
    obtain ⟨p, r, hp, hr, hpb, hpc, hpn⟩ := ha.get h0 hlt
    obtain ⟨q, r', hq, hr', hqb, hqc, hqn⟩ := hb.get h0 (by omega : n < (b.n : Int))
    simp only [List.getElem?_map, Option.map_eq_some_iff] at hr hr'
    obtain ⟨x, hx, rfl⟩ := hr
    obtain ⟨y, hy, rfl⟩ := hr'
    have ra := run_index und45 hi hp h0 hpn
    have rb := run_index und45 hi hq h0 hqn
    rw [hs] at ra rb
    refine ⟨_, ra, x, ⟨hpc, hpb⟩, _, rb, y, ⟨hqc, hqb⟩, fun h w7 hn => ⟨?_, hn.toBelow⟩, fun h => ⟨n + 1, ⟨by omega, by omega, h2, ?_⟩, ?_, ?_⟩⟩
    · have : xs ≠ ys := fun e => by subst e; rw [hx] at hy; simp at h hy; exact h hy
      simp [this]
    · have : (n + 1).toNat = n.toNat + 1 := by omega
      rw [this]
      simp at h
      subst h
      exact take_succ_eq h3 hx hy
    · dsimp only; omega
    · rw [wrap64 (by omega) (by omega)]
  · simp only [decide_eq_false_iff_not] at hge
    have : n.toNat = xs.length := by omega
    rw [this, List.take_length] at h3
    have e : xs = ys := by rw [h3, List.take_of_length_le (by omega)]
    simp [e]
theorem c135 {w : World} {a b : SL} {xs ys : List MK} (ha : RowsOf w 2 a (xs.map MK.l)) (hb : RowsOf w 2 b (ys.map MK.l)) : Calls Tryd.prog 135 #[a.v, b.v] w (Ret w (.bool (decide (xs = ys)))) := by
  obtain ⟨i38, hi, hs⟩ := inf94
  have la := ha.len; have lb := hb.len; have lt := ha.lt
  simp only [List.length_map] at la lb
  refine vc_135 w a b _ ?_
  simp only [true_and, and_true, forall_const]
  refine ⟨fun h w0 hn => ⟨?_, hn.toBelow⟩, fun h => ⟨fun i => 0 ≤ i ∧ i ≤ a.n ∧ a.n = b.n ∧ xs.take i.toNat = ys.take i.toNat, fun i => (a.n - i).toNat, ⟨0, ⟨Int.le_refl _, by omega, ?_, by simp⟩, rfl⟩, fun n ⟨h0, h1, h2, h3⟩ => ⟨fun hlt => ?_, fun hge w0 hn => ⟨?_, hn.toBelow⟩⟩⟩⟩
  · have : xs ≠ ys := fun e => by subst e; simp only [bne_iff_ne, ne_eq] at h; omega
    simp [this]
  · simp at h; omega
  · simp only [decide_eq_true_eq] at hlt
    obtain ⟨p, r, hp, hr, hpb, hpc, hpn⟩ := ha.get h0 hlt
    obtain ⟨q, r', hq, hr', hqb, hqc, hqn⟩ := hb.get h0 (by omega : n < (b.n : Int))
    simp only [List.getElem?_map, Option.map_eq_some_iff] at hr hr'
    obtain ⟨x, hx, rfl⟩ := hr
    obtain ⟨y, hy, rfl⟩ := hr'
    have ra := run_index und39 hi hp h0 hpn
    have rb := run_index und39 hi hq h0 hqn
    rw [hs] at ra rb
    refine ⟨_, ra, x, ⟨hpc, hpb⟩, _, rb, y, ⟨hqc, hqb⟩, fun h w7 hn => ⟨?_, hn.toBelow⟩, fun h => ⟨n + 1, ⟨by omega, by omega, h2, ?_⟩, ?_, ?_⟩⟩
    · have : xs ≠ ys := fun e => by subst e; rw [hx] at hy; obtain rfl := Option.some.inj hy; simp [andO] at h
      simp [this]
    · have : (n + 1).toNat = n.toNat + 1 := by omega
      rw [this]
      have : x = y := MK.eqs h
      subst this
      exact take_succ_eq h3 hx hy
    · dsimp only; omega
    · rw [wrap64 (by omega) (by omega)]
  · simp only [decide_eq_false_iff_not] at hge
    have : n.toNat = xs.length := by omega
    rw [this, List.take_length] at h3
    have e : xs = ys := by rw [h3, List.take_of_length_le (by omega)]
    simp [e]
theorem c136 {w : World} {a b : SL} {xs ys : List EN} (ha : RowsOf w 7 a (xs.map EN.l)) (hb : RowsOf w 7 b (ys.map EN.l)) : Calls Tryd.prog 136 #[a.v, b.v] w (Ret w (.bool (decide (xs = ys)))) := by
  obtain ⟨i38, hi, hs⟩ := inf92
  have la := ha.len; have lb := hb.len; have lt := ha.lt
  simp only [List.length_map] at la lb
  refine vc_136 w a b _ ?_
  simp only [true_and, and_true, forall_const]
  refine ⟨fun h w0 hn => ⟨?_, hn.toBelow⟩, fun h => ⟨fun i => 0 ≤ i ∧ i ≤ a.n ∧ a.n = b.n ∧ xs.take i.toNat = ys.take i.toNat, fun i => (a.n - i).toNat, ⟨0, ⟨Int.le_refl _, by omega, ?_, by simp⟩, rfl⟩, fun n ⟨h0, h1, h2, h3⟩ => ⟨fun hlt => ?_, fun hge w0 hn => ⟨?_, hn.toBelow⟩⟩⟩⟩
  · have : xs ≠ ys := fun e => by subst e; simp only [bne_iff_ne, ne_eq] at h; omega
    simp [this]
  · simp at h; omega
  · simp only [decide_eq_true_eq] at hlt
    obtain ⟨p, r, hp, hr, hpb, hpc, hpn⟩ := ha.get h0 hlt
    obtain ⟨q, r', hq, hr', hqb, hqc, hqn⟩ := hb.get h0 (by omega : n < (b.n : Int))
    simp only [List.getElem?_map, Option.map_eq_some_iff] at hr hr'
    obtain ⟨x, hx, rfl⟩ := hr
    obtain ⟨y, hy, rfl⟩ := hr'
    have ra := run_index und40 hi hp h0 hpn
    have rb := run_index und40 hi hq h0 hqn
    rw [hs] at ra rb
    refine ⟨_, ra, x, ⟨hpc, hpb⟩, _, rb, y, ⟨hqc, hqb⟩, fun h w7 hn => ⟨?_, hn.toBelow⟩, fun h => ⟨n + 1, ⟨by omega, by omega, h2, ?_⟩, ?_, ?_⟩⟩
    · have : xs ≠ ys := fun e => by subst e; rw [hx] at hy; obtain rfl := Option.some.inj hy; simp [andO] at h
      simp [this]
    · have : (n + 1).toNat = n.toNat + 1 := by omega
      rw [this]
      have : x = y := EN.eqs h
      subst this
      exact take_succ_eq h3 hx hy
    · dsimp only; omega
    · rw [wrap64 (by omega) (by omega)]
  · simp only [decide_eq_false_iff_not] at hge
    have : n.toNat = xs.length := by omega
    rw [this, List.take_length] at h3
    have e : xs = ys := by rw [h3, List.take_of_length_le (by omega)]
    simp [e]
end Go.Proofs.YtboedgnahmibcaaDoor
