/-
  The symbolic executor, part four: soundness for operations, regions that do not draw, code, calls.
-/
import Derived.Test.YtboedgnahmibcaaDoorEngC
import Derived.Tactics
namespace Go.Eng
open Go Go.RowKit

section
variable {P : Program} {cfg : Cfg} {ops : Array Oper} {imp : List Nat} {NL : Nat → Prop} {β : Nat → Nat} {st : St} {a : Act} {w wr : World} {o : Oper}

theorem wanted_slot {j : Nat} {want : Bool} {s : Nat} (hg : o.guard = some (j, want)) (hs : (ops[j]?).bind (·.dst) = some s) (tm : Array Value) :
    Region.wanted o (yielded ops tm) = true ↔ tm[s]? = some (.bool want) := by
  unfold Region.wanted yielded
  simp only [hg, hs, Option.bind_some]
  cases h : tm[s]? with
  | none => simp
  | some v => cases v <;> simp

/-- What the executor asks of the world behind it. -/
def Then (imp : List Nat) (ws : List Nat) (st0 : St) (k : St → World → (Nat → Prop) → Prop) (Kr : Act → World → Prop) : Prop :=
  ∀ β st wr NL a w, Fr ws st0 st → Sim imp NL β st a w → Now NL wr w → k st wr NL → Kr a w

/-- The slots that an operation may turn. -/
def opWs (ops : Array Oper) (o : Oper) : List Nat := o.dst.toList ++ (match guardSlot ops o with
  | some (some g) => [g.1]
  | _ => [])

theorem gd_rel {tm : Array Value} {s d : Nat} {want : Bool} {sv : SV} {v : Value} (hne : d ≠ s) (hng : sv.ng = true) (hs : tm[s]? = some (.bool want)) (hr : sv.rel β tm v) (u : Value) :
    (SV.gd s want sv).rel β (tm.setIfInBounds d u) v :=
  ⟨hng, fun _ => rel_ng hng hr, fun h => absurd (by simp [hne, hs]) h⟩
theorem gd_rel_off {tm : Array Value} {s d : Nat} {want : Bool} {sv : SV} (hne : d ≠ s) (hng : sv.ng = true) (hs : tm[s]? ≠ some (.bool want)) (u : Value) :
    (SV.gd s want sv).rel β (tm.setIfInBounds d u) undef :=
  ⟨hng, fun h => absurd (by simpa [hne] using h) hs, fun _ => rfl⟩

theorem put_gd {s : Nat} {want : Bool} {sv : SV} {v : Value} (hS : Sim imp NL β st a w) (hself : selfGuard o.dst (some (s, want)) = false) (hng : sv.ng = true) (hs : a.tmps[s]? = some (.bool want)) (hr : sv.rel β a.tmps v) :
    Sim imp NL β (st.put o.dst (.gd s want sv)) (a.put o.dst v) w := by
  refine hS.put o.dst ?_
  cases hd : o.dst with
  | none => exact ⟨hng, fun _ => hr, fun h => absurd hs h⟩
  | some d => exact gd_rel (by rw [hd] at hself; simpa [selfGuard] using hself) hng hs hr _
theorem put_gd_off {s : Nat} {want : Bool} {sv : SV} (hS : Sim imp NL β st a w) (hself : selfGuard o.dst (some (s, want)) = false) (hng : sv.ng = true) (hs : a.tmps[s]? ≠ some (.bool want)) :
    Sim imp NL β (st.put o.dst (.gd s want sv)) (a.put o.dst undef) w := by
  refine hS.put o.dst ?_
  cases hd : o.dst with
  | none => exact ⟨hng, fun h => absurd h hs, fun _ => rfl⟩
  | some d => exact gd_rel_off (by rw [hd] at hself; simpa [selfGuard] using hself) hng hs _

theorem rel_of_ofVal (v : Value) (tm : Array Value) : (ofVal v).rel β tm v := ofVal_rel _ _ _

theorem call_enter {Q : Exit → Act → World → Prop} {K : Act → World → Prop} {f : FuncId} {args : Array Value} {shp : RShp} {k : SV → World → (Nat → Prop) → Prop} (hn : Now NL wr w)
    (hc : callVC P shp f args wr NL k) (hK : ∀ v w2, Keeps NL w w2 → k (ofVal v) w2 (addNL NL w.heap.size w2.heap.size) → K (a.put o.dst v) w2) :
    o.upon P a K Q (.ok (.enter f args) w) := by
  simp only [Oper.upon_enter]
  obtain ⟨R, h1, h2⟩ := hc w hn
  refine h1.out.mono fun e w2 hR => ?_
  obtain ⟨v, rfl, hk, hv⟩ := exR_ex (h2 e w2 hR)
  exact hK v w2 hk.out hv

theorem Keeps.frm {w2 : World} (hk : Keeps NL w w2) : Frm NL w w2 (addNL NL w.heap.size w2.heap.size) :=
  ⟨hk.1, hk.2.1, fun _ h => h.imp id (fun h => h.1), fun _ h => .inl h, hk.2.2.1, hk.2.2.2.1, hk.2.2.2.2⟩
theorem Keeps.now {w2 : World} (hk : Keeps NL w w2) (hlt : ∀ b, NL b → b < w.heap.size) : Now (addNL NL w.heap.size w2.heap.size) w2 w2 :=
  .refl fun b hb => hb.elim (fun h => Nat.lt_of_lt_of_le (hlt b h) hk.1) (fun h => h.2)

theorem Now.lt' (hn : Now NL wr w) : ∀ b, NL b → b < w.heap.size := fun b hb => Nat.lt_of_lt_of_le (hn.lt b hb) hn.size

theorem quietSem_exec {ρ : Operand → Value} {s : Sem Value} (h : quietSem ρ o = some s) (w : World) {v : Value} (hr : s.run P w = .ok v w) : (execOp ρ o).run P w = .ok (.value v) w := by
  obtain ⟨dst, op, type, pos, after, guard⟩ := o
  cases op <;> simp only [quietSem] at h <;> try (cases h; done)
  case binOp b t x y t' =>
    cases b <;> simp only [Option.some.injEq] at h <;> first
      | (subst h; simp [execOp, eqGuard, hr])
      | (cases h; done)
  all_goals (simp only [Option.some.injEq] at h; subst h; simp [execOp, hr])

theorem effSem_exec {ρ : Operand → Value} {s : Sem Value} (h : effSem ρ o = some s) (w w' : World) {v : Value} (hr : s.run P w = .ok v w') : (execOp ρ o).run P w = .ok (.value v) w' := by
  obtain ⟨dst, op, type, pos, after, guard⟩ := o
  cases op <;> simp only [effSem] at h <;> try (cases h; done)
  case call c =>
    obtain ⟨callee, args, argTypes⟩ := c
    cases callee <;> try (simp at h; done)
    rename_i b
    cases b <;> simp only [Option.some.injEq] at h <;> first
      | (subst h; simp [execOp, resolve, invoke, builtin, hr])
      | (cases h; done)
      | (simp at h; done)
  all_goals (simp only [Option.some.injEq] at h; subst h; simp [execOp, hr])

theorem add_block (a : Addr) (n : Nat) : (a.add n).block = a.block := by unfold Addr.add; split <;> rfl

theorem CellsAt.now {vs : List Value} {ad : Addr} (h : CellsAt wr ad vs) (hb : NL ad.block) (hn : Now NL wr w) : CellsAt w ad vs :=
  ⟨fun j v hv => by rw [hn.cell (by rw [add_block]; exact hb)]; exact h.out j v hv⟩

/-- What a quiet operation comes to. -/
def Quiet (P : Program) (Q : Exit → Act → World → Prop) (imp : List Nat) (NL : Nat → Prop) (wr : World) (st : St) (ch : List (Nat × Bool)) (G : Prop) (o : Oper) (sv : SV) : Prop :=
  ∀ (β : Nat → Nat) (a : Act) (w : World), Sim imp NL β st a w → chOK ch a.tmps → Now NL wr w → G → ∀ Kr : Act → World → Prop, (∀ v w', sv.rel β a.tmps v → Frm NL w w' NL → Now NL wr w' → Kr (a.put o.dst v) w') → o.wp P a w Kr Q

theorem quietVC_sound {Q : Exit → Act → World → Prop} {G : Prop} {ch : List (Nat × Bool)} {k : SV → Prop} {p : Prop} (h : quietVC P cfg o G st ch wr NL k = some p) (hp : p) : ∃ sv, k sv ∧ sv.ng = true ∧ Quiet P Q imp NL wr st ch G o sv := by
  unfold quietVC at h
  split at h
  · rename_i ad t hl
    obtain rfl := Option.some.inj h
    -- the load
    obtain ⟨x, ho, hx, hrow⟩ : ∃ x, o.op = .load t x ∧ ev st ch x = .one (.val (.pointer (some ad))) ∧ ((isRow P t = some true ∧ ∃ i, P.info? t = some i ∧ (cellShp P 8 t).length = i.size) ∨ (isRow P t = some false ∧ ∃ i, P.info? t = some i)) := by
      unfold loadAddr at hl
      split at hl
      · rename_i t' x' ho
        split at hl
        · rename_i a' e
          split at hl
          · rename_i i h1 h2
            split at hl
            · rename_i hsz
              simp only [Option.some.injEq, Prod.mk.injEq] at hl
              obtain ⟨rfl, rfl⟩ := hl
              exact ⟨x', ho, e, .inl ⟨h1, i, h2, hsz⟩⟩
            · cases hl
          · rename_i i h1 h2
            simp only [Option.some.injEq, Prod.mk.injEq] at hl
            obtain ⟨rfl, rfl⟩ := hl
            exact ⟨x', ho, e, .inr ⟨h1, i, h2⟩⟩
          · cases hl
        · cases hl
      · cases hl
    have hau : ∀ (w : World) (b : Bool), isRow P t = some b → (isAgg t).run P w = .ok b w := fun w b hb => by
      unfold isRow at hb
      cases hu : P.underlying t with
      | none => simp [hu] at hb
      | some d =>
        simp only [isAgg, Sem.run_bind, run_underlying hu, Result.andThen_ok]
        cases d <;> simp [hu] at hb ⊢ <;> simp_all
    have fin : ∀ (vs : List Value) (v : Value) (sv : SV), (∀ (β : Nat → Nat) (tm : Array Value), sv.rel β tm v) → (∀ w : World, CellsAt w ad vs → (loadVar t ad).run P w = .ok v w) → (G → CellsAt wr ad vs ∧ NL ad.block) → Quiet P Q imp NL wr st ch G o sv := by
      intro vs v sv hrel hrun hG β a w hS hch hn hg Kr hK
      obtain ⟨hc, hb⟩ := hG hg
      have hxr := ev_rel hS hch x
      rw [hx] at hxr
      have hx' : a.eval x = .pointer (some ad) := hxr
      unfold Oper.wp
      have : (execOp a.eval o).run P w = .ok (.value v) w := by
        obtain ⟨dst, op, type, pos, after, guard⟩ := o
        simp only at ho
        subst ho
        simp [execOp, Instr.loadAt, hx', Instr.sureAddr, hrun w (hc.now hb hn)]
      rw [this, Oper.upon_value]
      exact hK v w (hrel β _) (.refl _ _) hn
    unfold loadVC at hp
    split at hp
    · rename_i r hr
      split at hp
      · rename_i hchk
        obtain ⟨x, hG, hk⟩ := hp
        rcases hrow with ⟨hr, i, hi, hsz⟩ | ⟨hr, i, hi⟩
        · simp only [rcdOK, hr, beq_iff_eq] at hchk
          refine ⟨_, hk, rfl, fin (r.l x) (.agg (r.l x).toArray) _ (fun β tm => ⟨r.l x, rfl, all2_vals β _⟩) (fun w hc => ?_) hG⟩
          have := run_loadCells_list (P := P) w ad (r.l x) hc.out
          rw [r.hn, hchk, hsz] at this
          simp [loadVar, hau w true hr, sizeOf, typeInfo, hi, this]
        · simp [rcdOK, hr] at hchk
      · exact hp.elim
    rcases hrow with ⟨hr, i, hi, hsz⟩ | ⟨hr, i, hi⟩
    · have hshp : vShp P t = .agg (cellShp P 8 t) := by
        unfold isRow at hr
        unfold vShp
        cases hu : P.underlying t with
        | none => simp [hu] at hr
        | some d => cases d <;> simp_all
      rw [hshp] at hp
      obtain ⟨vs, hG, hk⟩ := exCells_ex hp
      refine ⟨_, hk, rfl, ?_⟩
      by_cases hlen : vs.length = (cellShp P 8 t).length
      · refine fin vs (.agg vs.toArray) _ (fun β tm => ⟨vs, rfl, all2_vals β vs⟩) (fun w hc => ?_) (fun hg => (hG hg).2)
        have := run_loadCells_list (P := P) w ad vs hc.out
        rw [hlen, hsz] at this
        simp [loadVar, hau w true hr, sizeOf, typeInfo, hi, this]
      · exact fun β a w hS hch hn hg => absurd (hG hg).1 hlen
    · have hshp : ∃ s, vShp P t = .one s := by
        unfold isRow at hr
        unfold vShp
        cases hu : P.underlying t with
        | none => simp [hu] at hr
        | some d => cases d <;> simp [hu] at hr <;> simp only <;> split <;> exact ⟨_, rfl⟩
      obtain ⟨s, hshp⟩ := hshp
      rw [hshp] at hp
      obtain ⟨v, hG, hk⟩ := exOne_ex hp
      refine ⟨_, hk, ofVal_ng v, fin [v] v _ (fun β tm => ofVal_rel _ _ _) (fun w hc => ?_) hG⟩
      have := hc.out 0 v rfl
      simp only [Addr.add, if_true] at this
      simp [loadVar, hau w false hr, run_load, this]
  · split at h
    · rename_i hpl
      simp only [Bool.and_eq_true] at hpl
      split at h
      · rename_i s hs
        obtain rfl := Option.some.inj h
        obtain ⟨v, hG, hk⟩ := exR_ex hp
        refine ⟨_, hk, ofVal_ng v, fun β a w hS hch hn hg Kr hK => ?_⟩
        unfold Oper.wp
        rw [execOp_rho hS hch hpl.1 hpl.2, quietSem_exec hs w ((hG hg).out w), Oper.upon_value]
        exact hK v w (ofVal_rel _ _ _) (.refl _ _) hn
      · split at h
        · cases h
        · split at h
          · rename_i v hv
            obtain rfl := Option.some.inj h
            refine ⟨_, hp, ofVal_ng v, fun β a w hS hch hn hg Kr hK => ?_⟩
            unfold Oper.wp
            rw [execOp_rho hS hch hpl.1 hpl.2, pureRun_run hv, Oper.upon_value]
            exact hK v w (ofVal_rel _ _ _) (.refl _ _) hn
          · rename_i f args hv
            split at h
            · obtain rfl := Option.some.inj h
              obtain ⟨v, hG, hk⟩ := exR_ex hp
              refine ⟨_, hk, ofVal_ng v, fun β a w hS hch hn hg Kr hK => ?_⟩
              unfold Oper.wp
              rw [execOp_rho hS hch hpl.1 hpl.2, pureRun_run hv, Oper.upon_enter]
              exact (hG hg w hn).out.mono fun e w2 ⟨he, hb⟩ => by subst he; exact hK v w2 (ofVal_rel _ _ _) (Frm.below hb) (hn.below hb)
            · cases h
          · cases h
    · cases h

/-- The same, told more: the tracked blocks' numbers stay; of the blocks none turned but the one that is stored into. -/
def Then2 (P : Program) (cfg : Cfg) (ops : Array Oper) (o : Oper) (imp : List Nat) (ws : List Nat) (β0 : Nat → Nat) (st0 : St) (w0 : World) (k : St → World → (Nat → Prop) → Prop) (Kr : Act → World → Prop) : Prop :=
  ∀ β st wr NL a w, Fr ws st0 st → (∀ i, i < st0.locs.length → β i = β0 i) → (∀ l, l < st0.locs.length → (∀ g T xs, guardSlot ops o = some g → localOp P cfg.esc st0 (match g with | none => [] | some g => chain st0 4 g) o ≠ some (.upd l T xs)) → w.heap[β0 l]? = w0.heap[β0 l]?) → Sim imp NL β st a w → Now NL wr w → k st wr NL → Kr a w

theorem opVC_sound2 {Q : Exit → Act → World → Prop} {k : St → World → (Nat → Prop) → Prop} {Kr : Act → World → Prop} (hS : Sim imp NL β st a w) (hn : Now NL wr w)
    (h : opVC P cfg ops o st wr NL k) (hk : Then2 P cfg ops o imp (opWs ops o) β st w k Kr) : if Region.wanted o (yielded ops a.tmps) then o.wp P a w Kr Q else Kr (a.put o.dst undef) w := by
  have hwd : ∀ t, t ∈ o.dst.toList → t ∈ opWs ops o := fun t ht => List.mem_append_left _ ht
  unfold opVC at h
  split at h
  · exact h.elim
  · rename_i g hg
    split at h
    · exact h.elim
    · rename_i hself
      have hself : selfGuard o.dst g = false := by simpa using hself
      have hgd : (g = none ∧ o.guard = none) ∨ ∃ s want j, g = some (s, want) ∧ o.guard = some (j, want) ∧ (ops[j]?).bind (·.dst) = some s := by
        unfold guardSlot at hg
        split at hg
        · rename_i e; exact .inl ⟨(Option.some.inj hg).symm, e⟩
        · rename_i j want e
          split at hg
          · rename_i s hs; exact .inr ⟨s, want, j, (Option.some.inj hg).symm, e, hs⟩
          · cases hg
      rcases hgd with ⟨rfl, hgn⟩ | ⟨s, want, j, rfl, hgs, hs⟩
      · -- no guard
        have hw : Region.wanted o (yielded ops a.tmps) = true := by simp [Region.wanted, hgn]
        rw [if_pos hw]
        have hch : chOK [] a.tmps := fun _ hx => by cases hx
        dsimp only at h
        split at h
        · rename_i r hr
          split at h
          · rename_i st' hst
            have hrun := localOp_run hS hch hr
            have hfr := Fr.applyL hwd hst
            unfold Oper.wp
            cases r with
            | val sv =>
              obtain ⟨hng, v, hv, hrel⟩ := hrun
              rw [hv, Oper.upon_value]
              simp only [applyL, Option.some.injEq] at hst
              subst hst
              exact hk _ _ _ _ _ _ (Fr.put hwd) (fun _ _ => rfl) (fun _ _ _ => rfl) (hS.put o.dst (rel_ng hng hrel)) hn h
            | new T xs =>
              obtain ⟨cs, hv, hrel, h1⟩ := hrun
              rw [hv, Oper.upon_value]
              simp only [applyL] at hst
              split at hst
              · rename_i hwf
                simp only [Bool.and_eq_true] at hwf
                simp only [Option.some.injEq] at hst
                subst hst
                obtain ⟨β', hβ, hS'⟩ := hS.new hn.lt' o.dst hrel h1 hwf.1 hwf.2
                exact hk _ _ _ _ _ _ hfr hβ (fun l hl _ => alloc_lt w _ _ (hS.loc_lt hl)) hS' (hn.alloc _) h
              · cases hst
            | upd i T xs =>
              obtain ⟨old, cs, hi, hv, hrel, h1⟩ := hrun
              rw [hv, Oper.upon_skip]
              simp only [applyL, Option.some.injEq] at hst
              subst hst
              exact hk _ _ _ _ _ _ hfr (fun _ _ => rfl) (fun l hl hno => setRow_other _ _ _ _ (fun e => hno none T xs hg (by have := hS.inj l i hl (List.getElem?_eq_some_iff.1 hi).1 e; subst this; exact hr))) (hS.upd o.dst hi hrel h1) (hn.setRow (hS.nl i (List.getElem?_eq_some_iff.1 hi).1) _) h
          · exact h.elim
        · split at h
          · rename_i p hq
            obtain ⟨sv, hk1, hng, hqu⟩ := quietVC_sound (imp := imp) (Q := Q) hq h
            exact hqu β a w hS hch hn trivial Kr fun v w' hrel hf hn' => hk _ _ _ _ _ _ (Fr.put hwd) (fun _ _ => rfl) (fun l hl _ => hf.block _ (hS.loc_lt hl) (hS.nl l hl)) ((semNow hS hf).put o.dst (rel_ng hng hrel)) hn' hk1
          · split at h
            · rename_i t ad v hst
              obtain ⟨wr', hsto, hkk⟩ := h
              obtain ⟨w', hrun, hn', hf⟩ := hsto.out w hn
              have hx : ∃ p x, o.op = .store t p x ∧ a.eval p = .pointer (some ad) ∧ a.eval x = v := by
                unfold storeA at hst
                split at hst
                · rename_i t' p x ho
                  split at hst
                  · rename_i a' v' e1 e2
                    simp only [Option.some.injEq, Prod.mk.injEq] at hst
                    obtain ⟨rfl, rfl, rfl⟩ := hst
                    have hp := ev_rel hS hch p
                    rw [e1] at hp
                    exact ⟨p, x, ho, hp, SV.toVal_rel e2 (ev_rel hS hch x)⟩
                  · cases hst
                · cases hst
              obtain ⟨p, x, ho, hp, hxv⟩ := hx
              have hex : (execOp a.eval o).run P w = .ok .skip w' := by
                obtain ⟨dst, op, type, pos, after, guard⟩ := o
                simp only at ho
                subst ho
                simp [execOp, Instr.storeAt, hp, hxv, Instr.sureAddr, hrun]
              unfold Oper.wp
              rw [hex, Oper.upon_skip]
              exact hk _ _ _ _ _ _ (Fr.put hwd) (fun _ _ => rfl) (fun l hl _ => hf.block _ (hS.loc_lt hl) (hS.nl l hl)) ((semNow hS hf).put o.dst (sv := .one .junk) trivial) hn' hkk
            · split at h
              · rename_i hp
                simp only [Bool.and_eq_true] at hp
                split at h
                · rename_i sm hsm
                  obtain ⟨v, w2, hrun, hkp, hv⟩ := exR_ex (h w hn)
                  unfold Oper.wp
                  rw [execOp_rho hS hch hp.1 hp.2, effSem_exec hsm w w2 hrun.out, Oper.upon_value]
                  exact hk _ _ _ _ _ _ (Fr.put hwd) (fun _ _ => rfl) (fun l hl _ => hkp.out.frm.block _ (hS.loc_lt hl) (hS.nl l hl)) ((semNow hS hkp.out.frm).put o.dst (rel_of_ofVal v _)) (hkp.out.now hn.lt') hv
                · unfold Oper.wp
                  rw [execOp_rho hS hch hp.1 hp.2]
                  obtain ⟨nx, w', wr', NL', hrun, hK, hn', hf⟩ := semVC_run _ hn h
                  have hS' := semNow hS hf
                  rw [hrun]
                  cases nx <;> dsimp only at hK <;> try exact hK.elim
                  case value v =>
                    rw [Oper.upon_value]
                    exact hk _ _ _ _ _ _ (Fr.put hwd) (fun _ _ => rfl) (fun l hl _ => hf.block _ (hS.loc_lt hl) (hS.nl l hl)) (hS'.put o.dst (rel_of_ofVal v _)) hn' hK
                  case skip =>
                    rw [Oper.upon_skip]
                    exact hk _ _ _ _ _ _ (Fr.put hwd) (fun _ _ => rfl) (fun l hl _ => hf.block _ (hS.loc_lt hl) (hS.nl l hl)) (hS'.put o.dst (sv := .one .junk) trivial) hn' hK
                  case enter f args =>
                    exact call_enter hn' hK fun v w2 hkp hv => hk _ _ _ _ _ _ (Fr.put hwd) (fun _ _ => rfl) (fun l hl _ => (hkp.frm.block _ (hS'.loc_lt hl) (hS'.nl l hl)).trans (hf.block _ (hS.loc_lt hl) (hS.nl l hl))) ((semNow hS' hkp.frm).put o.dst (rel_of_ofVal v _)) (hkp.now hn'.lt') hv
              · exact h.elim
      · -- a guard
        dsimp only at h
        have hwi := wanted_slot (o := o) hgs hs a.tmps
        have hws : s ∈ opWs ops o := List.mem_append_right _ (by simp only [guardSlot, hgs, hs]; exact List.mem_singleton.2 rfl)
        by_cases hw : a.tmps[s]? = some (.bool want)
        · rw [if_pos (hwi.2 hw)]
          have hch := chain_ok hS 4 (s, want) hw
          split at h
          · rename_i r hr
            split at h
            · rename_i st' hst
              have hrun := localOp_run hS hch hr
              unfold Oper.wp
              cases r with
              | val sv =>
                obtain ⟨hng, v, hv, hrel⟩ := hrun
                rw [hv, Oper.upon_value]
                simp only [applyL, Option.some.injEq] at hst
                subst hst
                exact hk _ _ _ _ _ _ (Fr.put hwd) (fun _ _ => rfl) (fun _ _ _ => rfl) (put_gd hS hself hng hw hrel) hn h
              | new T xs => simp [applyL] at hst
              | upd i T xs => simp [applyL] at hst
            · exact h.elim
          · split at h
            · rename_i p hq
              obtain ⟨sv, hk1, hng, hqu⟩ := quietVC_sound (imp := imp) (Q := Q) hq h
              exact hqu β a w hS hch hn (gcond_of hS 5 (s, want) hw) Kr fun v w' hrel hf hn' => hk _ _ _ _ _ _ (Fr.put hwd) (fun _ _ => rfl) (fun l hl _ => hf.block _ (hS.loc_lt hl) (hS.nl l hl)) (put_gd (semNow hS hf) hself hng hw hrel) hn' hk1
            · split at h
              · rename_i hp
                simp only [Bool.and_eq_true] at hp
                split at h
                · rename_i f args hv
                  unfold Oper.wp
                  rw [execOp_rho hS hch hp.1 hp.2, pureRun_run hv]
                  have hc := h.1 (gcond_of hS 5 (s, want) hw)
                  exact call_enter hn hc fun v w2 hkp hv => hk _ _ _ _ _ _ ((Fr.know hws).trans (Fr.put hwd)) (fun _ _ => rfl) (fun l hl _ => hkp.frm.block _ (hS.loc_lt hl) (hS.nl l hl)) (((semNow hS hkp.frm).know hw).put o.dst (rel_of_ofVal v _)) (hkp.now hn.lt') hv
                · exact h.elim
              · exact h.elim
        · have hw' : ¬ Region.wanted o (yielded ops a.tmps) = true := fun h => hw (hwi.1 h)
          rw [if_neg hw']
          split at h
          · rename_i r hr
            split at h
            · rename_i st' hst
              cases r with
              | val sv =>
                simp only [applyL, Option.some.injEq] at hst
                subst hst
                exact hk _ _ _ _ _ _ (Fr.put hwd) (fun _ _ => rfl) (fun _ _ _ => rfl) (put_gd_off hS hself (localOp_ng hr) hw) hn h
              | new T xs => simp [applyL] at hst
              | upd i T xs => simp [applyL] at hst
            · exact h.elim
          · split at h
            · rename_i p hq
              obtain ⟨sv, hk1, hng, _⟩ := quietVC_sound (imp := imp) (Q := Q) hq h
              exact hk _ _ _ _ _ _ (Fr.put hwd) (fun _ _ => rfl) (fun _ _ _ => rfl) (put_gd_off hS hself hng hw) hn hk1
            · split at h
              · split at h
                · have hc := h.2
                  split at hc
                  · rename_i b e
                    have hr := hS.slot s
                    rw [e] at hr
                    have hs' : a.tmps[s]? = some (.bool b) := get_of_getD hr
                    have hb : b = !want := by
                      cases b <;> cases want <;> first | rfl | exact absurd hs' hw
                    subst hb
                    exact hk _ _ _ _ _ _ ((Fr.know hws).trans (Fr.put hwd)) (fun _ _ => rfl) (fun _ _ _ => rfl) ((hS.know hs').put o.dst (sv := .one .junk) trivial) hn (hc rfl)
                  · exact hc.elim
                · exact h.elim
              · exact h.elim

theorem opVC_sound {Q : Exit → Act → World → Prop} {k : St → World → (Nat → Prop) → Prop} {Kr : Act → World → Prop} (hS : Sim imp NL β st a w) (hn : Now NL wr w)
    (h : opVC P cfg ops o st wr NL k) (hk : Then imp (opWs ops o) st k Kr) : if Region.wanted o (yielded ops a.tmps) then o.wp P a w Kr Q else Kr (a.put o.dst undef) w :=
  opVC_sound2 hS hn h fun _ _ _ _ _ _ hf _ _ hS hn h => hk _ _ _ _ _ _ hf hS hn h

/-! ### guards that are known -/
inductive KG where
  | run | skip | asIs
def kg (ops : Array Oper) (st : St) (o : Oper) : KG := match guardSlot ops o with
  | some (some g) => match st.get g.1 with
    | .one (.kb b) => if (b == g.2) = true then .run else .skip
    | _ => .asIs
  | _ => .asIs
def unguard (o : Oper) : Oper := { o with guard := none }

theorem exec_unguard (ρ : Operand → Value) (o : Oper) : execOp ρ (unguard o) = execOp ρ o := by
  obtain ⟨dst, op, type, pos, after, guard⟩ := o
  cases op <;> rfl
theorem wp_unguard {Q : Exit → Act → World → Prop} {K : Act → World → Prop} : (unguard o).wp P a w K Q ↔ o.wp P a w K Q := by
  unfold Oper.wp
  rw [exec_unguard]
  generalize (execOp a.eval o).run P w = r
  cases r with
  | ok n w' => cases n <;> exact Iff.rfl
  | halt x w' => cases x <;> exact Iff.rfl
theorem kg_run (hS : Sim imp NL β st a w) (h : kg ops st o = .run) : Region.wanted o (yielded ops a.tmps) = true := by
  unfold kg at h
  split at h
  · rename_i g hg
    split at h
    · rename_i b e
      split at h
      · rename_i hb
        have hr := hS.slot g.1
        rw [e] at hr
        have hs : a.tmps[g.1]? = some (.bool b) := get_of_getD hr
        unfold guardSlot at hg
        split at hg
        · cases hg
        · rename_i j want hgd
          split at hg
          · rename_i s hsl
            simp only [Option.some.injEq] at hg
            subst hg
            refine (wanted_slot hgd hsl a.tmps).2 ?_
            simp only [beq_iff_eq] at hb
            rw [hs, hb]
          · cases hg
      · cases h
    · cases h
  · cases h
theorem kg_skip (hS : Sim imp NL β st a w) (h : kg ops st o = .skip) : Region.wanted o (yielded ops a.tmps) = false := by
  unfold kg at h
  split at h
  · rename_i g hg
    split at h
    · rename_i b e
      split at h
      · cases h
      · rename_i hb
        have hr := hS.slot g.1
        rw [e] at hr
        have hs : a.tmps[g.1]? = some (.bool b) := get_of_getD hr
        unfold guardSlot at hg
        split at hg
        · cases hg
        · rename_i j want hgd
          split at hg
          · rename_i s hsl
            simp only [Option.some.injEq] at hg
            subst hg
            cases hx : Region.wanted o (yielded ops a.tmps) with
            | false => rfl
            | true =>
              have := (wanted_slot hgd hsl a.tmps).1 hx
              simp only at hs hb
              rw [hs] at this
              simp only [Option.some.injEq, Value.bool.injEq] at this
              simp [this] at hb
          · cases hg
    · cases h
  · cases h
theorem unguard_ws : ∀ t ∈ opWs ops (unguard o), t ∈ opWs ops o := by
  intro t ht
  simp only [opWs, guardSlot, unguard, List.append_nil] at ht
  exact List.mem_append_left _ ht

def stepVC (P : Program) (cfg : Cfg) (ops : Array Oper) (o : Oper) (st : St) (wr : World) (NL : Nat → Prop) (k : St → World → (Nat → Prop) → Prop) : Prop :=
  match kg ops st o with
  | .run => opVC P cfg ops (unguard o) st wr NL k
  | .skip => k (st.put o.dst (.one .junk)) wr NL
  | .asIs => opVC P cfg ops o st wr NL k

theorem stepVC_sound {Q : Exit → Act → World → Prop} {k : St → World → (Nat → Prop) → Prop} {Kr : Act → World → Prop} (hS : Sim imp NL β st a w) (hn : Now NL wr w)
    (h : stepVC P cfg ops o st wr NL k) (hk : Then imp (opWs ops o) st k Kr) : if Region.wanted o (yielded ops a.tmps) then o.wp P a w Kr Q else Kr (a.put o.dst undef) w := by
  unfold stepVC at h
  split at h
  · rename_i hkg
    have := opVC_sound (Q := Q) hS hn h fun β st wr NL a w hf hS hn h => hk β st wr NL a w (hf.mono unguard_ws) hS hn h
    rw [if_pos (by simp [Region.wanted, unguard])] at this
    rw [if_pos (kg_run hS hkg)]
    exact wp_unguard.1 this
  · rename_i hkg
    rw [if_neg (by simp [kg_skip hS hkg])]
    exact hk _ _ _ _ _ _ (Fr.put fun t ht => List.mem_append_left _ ht) (hS.put o.dst (sv := .one .junk) trivial) hn h
  · exact opVC_sound hS hn h hk

def opsVC (P : Program) (cfg : Cfg) (ops : Array Oper) : List Oper → St → World → (Nat → Prop) → (St → World → (Nat → Prop) → Prop) → Prop
  | [], st, wr, NL, k => k st wr NL
  | o :: rest, st, wr, NL, k => stepVC P cfg ops o st wr NL fun st wr NL => opsVC P cfg ops rest st wr NL k

theorem opsVC_sound {Q : Exit → Act → World → Prop} {k : St → World → (Nat → Prop) → Prop} {ws : List Nat} {st0 : St} (hk : Then imp ws st0 k (Q .normal)) : ∀ (l : List Oper) {NL : Nat → Prop} {β : Nat → Nat} {st : St} {a : Act} {w wr : World}, (∀ o ∈ l, ∀ t ∈ opWs ops o, t ∈ ws) →
    Fr ws st0 st → Sim imp NL β st a w → Now NL wr w → opsVC P cfg ops l st wr NL k → wpList P ops Q l a w
  | [], _, _, _, _, _, _, _, hf, hS, hn, h => hk _ _ _ _ _ _ hf hS hn h
  | o :: rest, NL, β, st, a, w, wr, hws, hf, hS, hn, h => by
    have := stepVC_sound (Q := Q) (Kr := wpList P ops Q rest) hS hn h fun β' st' wr' NL' a' w' hf' hS' hn' h' => opsVC_sound hk rest (fun o ho => hws o (List.mem_cons_of_mem _ ho)) (hf.trans (hf'.mono (hws o List.mem_cons_self))) hS' hn' h'
    unfold wpList
    split
    · rename_i hw; rw [if_pos hw] at this; exact .inl this
    · rename_i hw; rw [if_neg hw] at this; exact this

/-- Behind a region no value hangs on a guard any more. -/
def SV.clear : SV → SV
  | .gd _ _ _ => .one .junk
  | x => x
def St.clear (st : St) : St := { st with slots := st.slots.map SV.clear }

theorem Sim.clear (hS : Sim imp NL β st a w) : Sim imp NL β st.clear a w := by
  refine ⟨by simp [St.clear, hS.size], fun t => ?_, hS.defers, hS.loc, hS.inj, hS.nl, hS.impl, hS.impb⟩
  have := hS.slot t
  simp only [St.clear, St.get, List.getD_eq_getElem?_getD, List.getElem?_map] at this ⊢
  cases hx : st.slots[t]? with
  | none => trivial
  | some y =>
    rw [hx] at this
    cases y <;> first | exact this | trivial

theorem clear_get {t : Nat} (hn : (st.get t).ng = true) : st.clear.get t = st.get t := by
  simp only [St.clear, St.get, List.getD_eq_getElem?_getD, List.getElem?_map] at hn ⊢
  cases hx : st.slots[t]? with
  | none => rfl
  | some y =>
    rw [hx] at hn
    simp only [Option.map_some, Option.getD_some] at hn ⊢
    cases y <;> first | rfl | (simp [SV.ng] at hn)

theorem Fr.clear {ws : List Nat} : Fr ws st st.clear := ⟨fun _ _ hn => clear_get hn, Nat.le_refl _, by simp [St.clear], rfl, Iff.rfl, fun _ h => h, fun _ _ _ _ => rfl⟩

theorem opWs_dst (o : Oper) (ho : o ∈ ops.toList) : ∀ t ∈ opWs ops o, t ∈ ops.toList.filterMap (·.dst) := by
  intro t ht
  simp only [opWs, List.mem_append] at ht
  rcases ht with ht | ht
  · exact List.mem_filterMap.2 ⟨o, ho, by simpa using ht⟩
  · unfold guardSlot at ht
    split at ht
    · rename_i g e
      split at e
      · cases e
      · rename_i j want _
        split at e
        · rename_i s hs
          simp only [Option.some.injEq] at e
          subst e
          obtain rfl : t = s := by simpa using ht
          cases hj : ops[j]? with
          | none => rw [hj] at hs; simp at hs
          | some o' =>
            rw [hj] at hs
            exact List.mem_filterMap.2 ⟨o', by simpa using Array.mem_of_getElem? hj, by simpa using hs⟩
        · cases e
    · cases ht

theorem region_sound {Q : Exit → Act → World → Prop} {k : St → World → (Nat → Prop) → Prop} {id : Nat} (hk : Then imp (ops.toList.filterMap (·.dst)) st k (Q .normal)) (hS : Sim imp NL β st a w) (hn : Now NL wr w)
    (h : opsVC P cfg ops ops.toList st wr NL fun st wr NL => k st.clear wr NL) : (Code.region id ops false).wp P Q a w :=
  wp_region_list (opsVC_sound (st0 := st) (fun β st wr NL a w hf hS hn h => hk β st.clear wr NL a w (hf.trans .clear) hS.clear hn h) _ opWs_dst (.refl _ _) hS hn h)

end
end Go.Eng
