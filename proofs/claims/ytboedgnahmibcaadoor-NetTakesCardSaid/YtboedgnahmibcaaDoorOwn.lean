/-
  Slices that were made by the call itself, and what copies and appends do to them.
-/
import Derived.Test.YtboedgnahmibcaaDoorMem
import Derived.Laws.AppendOwn
import Derived.Laws.MakeOwn
set_option linter.unusedVariables false
namespace Go.Pal
open Go Go.Eng Go.RowKit

/-- Old blocks stay, but for one. -/
def SameBut (row : Option Nat) (w w' : World) : Prop := w.grownBy w' row

theorem take_mul_get {sz : Nat} : ∀ {rows : List (List Value)} (hr : ∀ r ∈ rows, r.length = sz) {i : Nat} {r : List Value}, rows[i]? = some r → ∀ (j : Nat) (v : Value), r[j]? = some v → rows.flatten[i * sz + j]? = some v
  | [], _, i, r, h, _, _, _ => by simp at h
  | x :: l, hr, 0, r, h, j, v, hj => by
    obtain rfl : x = r := by simpa using h
    simp only [List.flatten_cons, Nat.zero_mul, Nat.zero_add]
    rw [List.getElem?_append_left (List.getElem?_eq_some_iff.1 hj).1]
    exact hj
  | x :: l, hr, i + 1, r, h, j, v, hj => by
    have hx : x.length = sz := hr x List.mem_cons_self
    simp only [List.flatten_cons]
    rw [List.getElem?_append_right (by rw [hx, Nat.add_mul]; omega), hx]
    have := take_mul_get (fun r hr' => hr r (List.mem_cons_of_mem _ hr')) (by simpa using h) j v hj
    rw [← this]
    congr 1
    rw [Nat.add_mul]
    omega

theorem flatten_length {sz : Nat} : ∀ {rows : List (List Value)}, (∀ r ∈ rows, r.length = sz) → rows.flatten.length = rows.length * sz
  | [], _ => by simp
  | x :: l, h => by
    simp only [List.flatten_cons, List.length_append, List.length_cons, h x List.mem_cons_self, flatten_length (fun r hr => h r (List.mem_cons_of_mem _ hr)), Nat.add_mul]
    omega

/-- A slice of the call's own tells its rows. -/
theorem RowsOf.of_own {w : World} {base e sz : Nat} {s : SL} {rows : List (List Value)} (h : w.ownsRow base e sz s.v rows.length rows.flatten) (hr : ∀ r ∈ rows, r.length = sz) (hlt : rows.length < 4611686018427387904) : RowsOf w sz s rows := by
  obtain ⟨hl, h⟩ := h
  rcases h with ⟨hv, hn⟩ | ⟨g, cap, cur, hv, hb, hg, hnc, hcm, hcs, htk⟩
  · obtain ⟨a, n, c⟩ := s
    simp only [SL.v, Value.slice.injEq] at hv
    obtain ⟨rfl, rfl, rfl⟩ := hv
    have : rows = [] := List.eq_nil_of_length_eq_zero hn
    subst this
    exact ⟨rfl, by decide, fun i r h => by simp at h⟩
  · obtain ⟨a, n, c⟩ := s
    simp only [SL.v, Value.slice.injEq] at hv
    obtain ⟨rfl, rfl, rfl⟩ := hv
    refine ⟨rfl, hlt, fun i r hi => ⟨⟨g, 0, none⟩, rfl, (Array.getElem?_eq_some_iff.1 hg).1, ⟨fun j v hj => ?_⟩⟩⟩
    have h1 := take_mul_get hr hi j v hj
    rw [← htk] at h1
    rw [List.getElem?_take] at h1
    split at h1
    · simp only [Addr.add_lit, World.cell?, hg]
      simpa using h1
    · cases h1

/-- The cells that a slice of rows begins with. -/
theorem RowsOf.cells {w : World} {sz : Nat} {s : SL} {rows : List (List Value)} (h : RowsOf w sz s rows) (hr : ∀ r ∈ rows, r.length = sz) (hsz : 0 < sz) {a : Addr} (ha : s.a = some a) : ∀ (j : Nat) (v : Value), rows.flatten[j]? = some v → w.cell? (a.add j) = some v := by
  intro j v hj
  have hl := flatten_length hr
  have hjl : j < rows.length * sz := by rw [← hl]; exact (List.getElem?_eq_some_iff.1 hj).1
  have hi : j / sz < rows.length := (Nat.div_lt_iff_lt_mul hsz).2 hjl
  obtain ⟨a', ha', hlt, hc⟩ := h.row (j / sz) _ (List.getElem?_eq_getElem hi)
  rw [ha] at ha'
  obtain rfl := Option.some.inj ha'
  have hx : (rows[j / sz]).length = sz := hr _ (List.getElem_mem hi)
  have hm : j % sz < sz := Nat.mod_lt _ hsz
  have h1 := take_mul_get hr (List.getElem?_eq_getElem hi) (j % sz) _ (List.getElem?_eq_getElem (by rw [hx]; exact hm))
  have e : j / sz * sz + j % sz = j := Nat.div_add_mod' j sz
  rw [e, hj] at h1
  obtain rfl := Option.some.inj h1
  have := hc.out (j % sz) _ (List.getElem?_eq_getElem (by rw [hx]; exact hm))
  have e2 : (a.add (j / sz * sz)).add (j % sz) = a.add j := by
    unfold Addr.add
    split <;> split <;> simp_all [Nat.add_assoc]
    all_goals (first | omega | skip)
  rwa [e2] at this

section
variable {P : Program}
theorem run_copy_rows (w : World) (dT sT ty elem : TypeId) (inf : TypeInfo) (g dLen dCap : Nat) (a : Addr) (sLen sCap : Nat) (cur : Array Value) (t : TypeId) (cs : List Value)
    (hu : P.underlying dT = some (.slice elem)) (hi : P.info? elem = some inf)
    (hg : w.heap[g]? = some (.cells cur t (0, 0))) (hn : cs.length = Nat.min sLen dLen * inf.size)
    (hsrc : ∀ j v, cs[j]? = some v → w.cell? (a.add j) = some v) (hfit : cs.length ≤ cur.size) (h1 : ∀ v ∈ cs, v.oneCell' = true) :
    (Builtin.copy_ #[dT, sT] ty #[.slice (some ⟨g, 0, none⟩) dLen dCap, .slice (some a) sLen sCap]).run P w =
      .ok (goInt (Nat.min sLen dLen)) (w.setRow g (cs ++ cur.toList.drop cs.length).toArray) := by
  have hf := run_firstCells_some (P := P) w inf.size (Nat.min sLen dLen) a sLen sCap cs hn hsrc
  have hst := run_storeCells_at P g 0 t cs 0 cur w hg (by simpa using hfit) h1
  simp only [Nat.add_zero, List.take_zero, List.nil_append, Nat.zero_add] at hst
  simp [Builtin.copy_, run_underlying hu, Builtin.lenOf, sizeOf, typeInfo, hi, hf, hst]
end
end Go.Pal
