/-
  An append onto a slice of one's own: where its row lies then.
-/
import Derived.Test.YtboedgnahmibcaaDoorSl
set_option linter.unusedVariables false
namespace Go.Pal
open Go Go.Eng Go.RowKit

theorem append_own {P : Program} {w : World} {base : Nat} {t e : TypeId} {i : TypeInfo} {z : Value} (ht : P.underlying t = some (.slice e)) (hi : P.info? e = some i) (hz : i.zero = some z) (hzs : z.cells.size = i.size) (hsz : 0 < i.size)
    {s : SL} {n : Nat} {xs : List Value} (hown : w.ownsRow base e i.size s.v n xs) {a : Addr} {m c : Nat} {news : List Value} (hm : 0 < m) (hl : news.length = m * i.size) (hnews : ∀ j u, news[j]? = some u → w.cell? (a.add j) = some u) (h1 : ∀ u ∈ news, u.oneCell' = true)
    (h63 : n + m ≤ maxLen) (hbytes : (n + m) * i.bytes ≤ 140737488355328) (hbase : base ≤ w.heap.size) (ty : TypeId) :
    ∃ (s' : SL) (w' : World), (Builtin.append_ #[t, t] ty #[s.v, .slice (some a) m c]).run P w = .ok s'.v w' ∧ w'.ownsRow base e i.size s'.v (n + m) (xs ++ news) ∧ w.grownBy w' s.v.ownBlock ∧
      ∀ g, s'.v.ownBlock = some g → s.v.ownBlock = some g ∨ g = w.heap.size := by
  obtain ⟨v', w', hrun, hown', hgr, _⟩ := run_append_own (P := P) w base t ty e i z i.size i.bytes ht hi hz rfl rfl hzs hsz s.v n xs hown a m c news hl hnews h1 h63 hbytes hbase
  have hsmall : n + m ≤ 9223372036854775807 := by simp only [maxLen] at h63; omega
  have key : ∀ g, v'.ownBlock = some g → s.v.ownBlock = some g ∨ g = w.heap.size := by
    intro g hg
    rcases hown.2 with ⟨hv, rfl⟩ | ⟨g0, cap, cur, hv, hb, hg0, hnc, hcm, hcs, htk⟩
    · have hr := run_append_nil (P := P) w t ty e i z ht hi hz a m c news hl hnews hm (by omega) (by simp only [Nat.zero_add] at hbytes; omega)
      rw [hv, hr] at hrun
      simp only [Result.ok.injEq] at hrun
      rw [← hrun.1] at hg
      simp only [Value.ownBlock, Option.some.injEq] at hg
      exact .inr hg.symm
    · by_cases hroom : n + m ≤ cap
      · have hr := run_append_room (P := P) w t ty e i ht hi g0 n cap cur hg0 a m c news hl hnews h1 hroom (by rw [hl, hcs, ← Nat.add_mul]; exact Nat.mul_le_mul_right _ hroom)
        rw [hv, hr] at hrun
        simp only [Result.ok.injEq] at hrun
        rw [← hrun.1] at hg
        rw [hv]
        exact .inl hg
      · have hx : ∀ j u, xs[j]? = some u → w.cell? ((⟨g0, 0, none⟩ : Addr).add j) = some u := hown.cells (g := g0) (by rw [hv]; rfl)
        have hr := run_append_grow (P := P) w t ty e i z ht hi hz ⟨g0, 0, none⟩ n cap xs hown.1 hx a m c news hl hnews (by omega) (by omega) (growslice_fits (by omega) hbytes)
        rw [hv, hr] at hrun
        simp only [Result.ok.injEq] at hrun
        rw [← hrun.1] at hg
        simp only [Value.ownBlock, Option.some.injEq] at hg
        exact .inr hg.symm
  obtain ⟨s', rfl⟩ : ∃ s' : SL, v' = s'.v := by
    rcases hown'.2 with ⟨hv, _⟩ | ⟨g, cap, cur, hv, _⟩
    · exact ⟨⟨none, 0, 0⟩, hv⟩
    · exact ⟨⟨some ⟨g, 0, none⟩, _, cap⟩, hv⟩
  exact ⟨s', w', hrun, hown', hgr, key⟩
end Go.Pal
