/-
  The symbolic executor, part eight: a region that draws its order.
-/
import Derived.Test.YtboedgnahmibcaaDoorEngG
namespace Go.Eng
open Go Go.RowKit

section
variable {P : Program} {cfg : Cfg} {ops : Array Oper} {imp : List Nat} {NL : Nat → Prop} {wr : World} {S0 : St} {Q : Exit → Act → World → Prop}

theorem Dof_set {listed : Array Bool} {i : Nat} (hi : i < listed.size) (j : Nat) : Dof (listed.setIfInBounds i true) j = if j = i then true else Dof listed j := by
  unfold Dof
  by_cases e : j = i
  · subst e; simp [hi]
  · rw [if_neg e]; exact getD_set_ne false (fun h => e h.symm)

theorem mix_step {β : Nat → Nat} {steps : List Stp} {listed : Array Bool} {i : Nat} {o : Oper} {s : Stp} {a : Act} {w : World} {v : Value} (hchk : chk ops S0 steps = true) (hs : steps[i]? = some s) (ho : ops[i]? = some o) (hd : s.dst = o.dst)
    (hi : i < listed.size) (hun : listed.getD i true = false) (hcl : Closed ops listed) (hS : Sim imp NL β (mix S0 (Dof listed) steps) a w) (hr : s.sv.rel β (a.put o.dst v).tmps v) :
    ∀ t, ((mix S0 (Dof (listed.setIfInBounds i true)) steps).get t).rel β (a.put o.dst v).tmps ((a.put o.dst v).tmps.getD t undef) := by
  intro t
  obtain ⟨_, _, _, hdst⟩ := chk_at hchk hs
  have hsz : a.tmps.size = S0.slots.length := by rw [hS.size]; simp [mix, mixSlots_length]
  rw [mix_get]
  by_cases ht : t < S0.slots.length
  · rw [if_pos ht, gM]
    by_cases e : o.dst = some t
    · rw [look_some hs (hd.trans e) (fun j' s' h1 h2 => dst_at hdst (hd.trans e) h1 h2), Nat.zero_add, Dof_set hi, if_pos rfl]
      simp only [if_true, Option.getD_some]
      have : (a.put o.dst v).tmps.getD t undef = v := by
        rw [e]
        simp [Act.put, hsz, ht]
      rw [this]
      exact hr
    · have hlook : look (Dof (listed.setIfInBounds i true)) t 0 steps = look (Dof listed) t 0 steps := look_congr fun j s' hj hdj => by
        rw [Nat.zero_add, Dof_set hi]
        by_cases e' : j = i
        · subst e'
          obtain rfl := Option.some.inj (hs.symm.trans hj)
          exact absurd (hd.symm.trans hdj) e
        · rw [if_neg e']
      rw [hlook]
      have hold := hS.slot t
      rw [mix_get, if_pos ht, gM] at hold
      have hval : (a.put o.dst v).tmps.getD t undef = a.tmps.getD t undef := by
        cases hod : o.dst with
        | none => rfl
        | some d =>
          have hne : d ≠ t := fun h => e (by rw [hod, h])
          simp [Act.put, Array.getD_eq_getD_getElem?, hne]
      rw [hval]
      generalize hx : (look (Dof listed) t 0 steps).getD (S0.get t) = x at hold ⊢
      cases hng : x.ng with
      | true => exact rel_ng hng hold
      | false =>
        cases x with
        | one f => simp [SV.ng] at hng
        | agg xs => simp [SV.ng] at hng
        | gd s' want y =>
          have hne : ∀ d, o.dst = some d → d ≠ s' := by
            intro d hod hds
            subst hds
            cases hl : look (Dof listed) t 0 steps with
            | none =>
              rw [hl] at hx
              simp only [Option.getD_none] at hx
              have hall : ∀ x ∈ S0.slots, x.ng = true := by
                simp only [chk, Bool.and_eq_true, List.all_eq_true] at hchk
                exact hchk.1.1
              rcases get_mem_or S0 t with e' | e'
              · rw [e'] at hx; cases hx
              · have := hall _ e'
                rw [hx] at this
                simp [SV.ng] at this
            | some z =>
              rw [hl] at hx
              simp only [Option.getD_some] at hx
              subst hx
              obtain ⟨j, sj, hj, hD, hsv⟩ := look_gd hl rfl
              rw [Nat.zero_add] at hD
              obtain ⟨hdj, _, hgj, _⟩ := chk_at hchk hj
              have hrd : sj.reads.contains d = true := by
                unfold chkGd at hgj
                rw [hsv] at hgj
                exact hgj
              obtain ⟨_, oj, hoj, hb⟩ := deps_at hdj hrd hs (hd.trans hod)
              exact ready_not hun (hcl.thru 3 oj (fun k hk => hcl j oj hoj hD k hk) i hb)
          cases hod : o.dst with
          | none => exact hold
          | some d =>
            have hne' := hne d hod
            have e' : (a.tmps.setIfInBounds d v)[s']? = a.tmps[s']? := by simp [hne']
            simp only [Act.put]
            exact ⟨hold.1, fun h => rel_ng hold.1 (hold.2.1 (by rwa [e'] at h)), fun h => hold.2.2 (by rwa [e'] at h)⟩
  · rw [if_neg ht]; trivial

theorem mix_locs_none {steps : List Stp} {listed : Array Bool} {i : Nat} {s : Stp} (hs : steps[i]? = some s) (hup : s.up = none) (hi : i < listed.size) :
    (mix S0 (Dof (listed.setIfInBounds i true)) steps).locs = (mix S0 (Dof listed) steps).locs := by
  apply List.ext_getElem?
  intro l
  simp only [mix, mixLocs_get, Nat.zero_add]
  cases S0.locs[l]? with
  | none => rfl
  | some x =>
    simp only [Option.map_some, Option.some.injEq, Prod.mk.injEq, true_and]
    apply List.ext_getElem?
    intro c
    simp only [mixXs_get, Nat.zero_add]
    cases x.2[c]? with
    | none => rfl
    | some f =>
      simp only [Option.map_some, Option.some.injEq]
      refine cM_congr fun j s' hj hu => ?_
      rw [Nat.zero_add, Dof_set hi]
      by_cases e : j = i
      · subst e
        obtain rfl := Option.some.inj (hs.symm.trans hj)
        rw [hup] at hu
        simp [inUp] at hu
      · rw [if_neg e]

theorem closed_set {listed : Array Bool} {i : Nat} {o : Oper} (ho : ops[i]? = some o) (hi : i < listed.size) (hall : ∀ e ∈ o.after, Region.binds .any e = true → listed.getD e.on false = true) (hcl : Closed ops listed) :
    Closed ops (listed.setIfInBounds i true) := by
  intro j oj hoj hj k hb
  by_cases e : j = i
  · subst e
    obtain rfl := Option.some.inj (ho.symm.trans hoj)
    simp only [bindsOn, List.any_eq_true] at hb
    obtain ⟨e, he, hb⟩ := hb
    simp only [Bool.and_eq_true, beq_iff_eq] at hb
    have := hall e (by simpa using he) hb.1
    rw [hb.2] at this
    exact getD_set_true this
  · rw [getD_set_ne false (fun h => e h.symm)] at hj
    exact getD_set_true (hcl j oj hoj hj k hb)

theorem store_step {β : Nat → Nat} {steps : List Stp} {listed : Array Bool} {i : Nat} {s : Stp} {a : Act} {w : World} {l off : Nat} {ys : List FV} {ty : TypeId} {xs0 : List FV} {cs vs : List Value}
    (hchk : chk ops S0 steps = true) (hs : steps[i]? = some s) (hup : s.up = some (l, off, ys)) (hi : i < listed.size) (hS : Sim imp NL β (mix S0 (Dof listed) steps) a w)
    (hl : S0.locs[l]? = some (ty, xs0)) (hle : off + ys.length ≤ xs0.length) (hb : w.heap[β l]? = some (.cells cs.toArray ty (0, 0))) (hcs : All2 (FV.rel β) (mixXs (Dof listed) steps l 0 xs0) cs) (h1 : ∀ c ∈ cs, c.oneCell' = true)
    (hv : All2 (FV.rel β) ys vs) (hv1 : ∀ c ∈ vs, c.oneCell' = true) {a' : Act} (hslots : ∀ t, ((mix S0 (Dof (listed.setIfInBounds i true)) steps).get t).rel β a'.tmps (a'.tmps.getD t undef)) (hsz : a'.tmps.size = a.tmps.size) (hdf : a'.defers = []) :
    Sim imp NL β (mix S0 (Dof (listed.setIfInBounds i true)) steps) a' (w.setRow (β l) (cs.take off ++ vs ++ cs.drop (off + vs.length)).toArray) := by
  obtain ⟨_, hcells, _, _⟩ := chk_at hchk hs
  have hlen : ∀ D, (mix S0 D steps).locs.length = S0.locs.length := fun D => by simp [mix, mixLocs_length]
  have hll : l < S0.locs.length := (List.getElem?_eq_some_iff.1 hl).1
  have hvl := hv.length
  have hcl : xs0.length = cs.length := by have := hcs.length; simpa [mixXs_length] using this
  refine ⟨by rw [hsz, hS.size]; simp [mix, mixSlots_length], hslots, hdf, fun m ty' xs' h => ?_, fun m n hm hn e => hS.inj m n (by rw [hlen] at hm ⊢; exact hm) (by rw [hlen] at hn ⊢; exact hn) e, fun m hm => hS.nl m (by rw [hlen] at hm ⊢; exact hm), by rw [hlen, ← hlen (Dof listed)]; exact hS.impl, hS.impb⟩
  simp only [mix, mixLocs_get, Nat.zero_add] at h
  by_cases e : m = l
  · subst e
    simp only [hl, Option.map_some, Option.some.injEq, Prod.mk.injEq] at h
    obtain ⟨rfl, rfl⟩ := h
    refine ⟨_, setRow_heap w _ _ _ _ _ hb, ?_, fun c hc => ?_⟩
    · rw [all2_iff] at hcs ⊢
      refine ⟨by simp [mixXs_length]; omega, fun c x y hx hy => ?_⟩
      rw [mixXs_get] at hx
      cases hf : xs0[c]? with
      | none => simp [hf] at hx
      | some f =>
        simp only [hf, Option.map_some, Option.some.injEq, Nat.zero_add] at hx
        subst hx
        by_cases hin : off ≤ c ∧ c < off + ys.length
        · have hyc : ys[c - off]? = some (ys[c - off]'(by omega)) := List.getElem?_eq_getElem (by omega)
          have hyv : y = vs[c - off]'(by omega) := by
            rw [List.append_assoc, List.getElem?_append_right (by simp; omega)] at hy
            have e1 : c - (cs.take off).length = c - off := by simp; omega
            rw [e1, List.getElem?_append_left (by omega), List.getElem?_eq_getElem (by omega)] at hy
            exact (Option.some.inj hy).symm
          have hinup : inUp m c s.up = some (ys[c - off]'(by omega)) := by
            rw [hup]
            simp only [inUp]
            rw [if_pos ⟨by first | rfl | trivial, hin.1⟩]
            exact hyc
          rw [cM_at hs hinup (by rw [Nat.zero_add, Dof_set hi, if_pos rfl]) fun j' s' hj' hu' => by
            cases hz : inUp m c s'.up with
            | none => exact absurd hz hu'
            | some z =>
              obtain ⟨off', ys', e1, e2, e3, _⟩ := inUp_some hz
              rcases (cells_at hcells hj' e1).2 m off ys hup with h | h
              · exact h
              · exact (apart_no h rfl e2 e3 hin.1 hin.2).elim]
          rw [hyv]
          exact (all2_iff.1 hv).2 (c - off) _ _ hyc (List.getElem?_eq_getElem (by omega))
        · have hno : inUp m c s.up = none := by
            rw [hup]
            simp only [inUp]
            split
            · rename_i hh
              exact List.getElem?_eq_none (by omega)
            · rfl
          have hcm : cM (Dof (listed.setIfInBounds i true)) m c f 0 steps = cM (Dof listed) m c f 0 steps := cM_congr fun j s' hj hu => by
            rw [Nat.zero_add, Dof_set hi]
            by_cases e' : j = i
            · subst e'
              obtain rfl := Option.some.inj (hs.symm.trans hj)
              exact absurd hno hu
            · rw [if_neg e']
          rw [hcm]
          refine hcs.2 c _ y (by rw [mixXs_get, hf]; simp) ?_
          rcases Nat.lt_or_ge c off with h | h
          · rw [List.append_assoc, List.getElem?_append_left (by simp; omega), List.getElem?_take, if_pos h] at hy
            exact hy
          · have h' : off + ys.length ≤ c := by omega
            rw [List.getElem?_append_right (by simp; omega), List.getElem?_drop] at hy
            rw [← hy]
            congr 1
            simp
            omega
    · simp only [List.mem_append] at hc
      rcases hc with (hc | hc) | hc
      · exact h1 c (List.mem_of_mem_take hc)
      · exact hv1 c hc
      · exact h1 c (List.mem_of_mem_drop hc)
  · cases hx : S0.locs[m]? with
    | none => simp [hx] at h
    | some x =>
      obtain ⟨ty', xs⟩ := x
      simp only [hx, Option.map_some, Option.some.injEq, Prod.mk.injEq] at h
      obtain ⟨rfl, rfl⟩ := h
      have hml : m < S0.locs.length := (List.getElem?_eq_some_iff.1 hx).1
      obtain ⟨ds, hb', ha', hd'⟩ := hS.loc m ty' (mixXs (Dof listed) steps m 0 xs) (by simp [mix, mixLocs_get, hx])
      refine ⟨ds, by rw [setRow_other _ _ _ _ (fun e' => e (hS.inj m l (by rw [hlen]; exact hml) (by rw [hlen]; exact hll) e'))]; exact hb', ?_, hd'⟩
      have : mixXs (Dof (listed.setIfInBounds i true)) steps m 0 xs = mixXs (Dof listed) steps m 0 xs := by
        apply List.ext_getElem?
        intro c
        simp only [mixXs_get, Nat.zero_add]
        cases xs[c]? with
        | none => rfl
        | some f =>
          simp only [Option.map_some, Option.some.injEq]
          refine cM_congr fun j s' hj hu => ?_
          rw [Nat.zero_add, Dof_set hi]
          by_cases e' : j = i
          · subst e'
            obtain rfl := Option.some.inj (hs.symm.trans hj)
            rw [hup] at hu
            simp [inUp] at hu
            exact absurd hu.1.symm e
          · rw [if_neg e']
      rw [this]
      exact ha'

theorem draw_sound {id : Nat} {β : Nat → Nat} {a : Act} {w : World} {k : St → Prop} (hm : P.follows .mixedOrders = true) (hS : Sim imp NL β S0 a w) (hn : Now NL wr w)
    (h : qopsVC P cfg ops S0 wr NL (fun steps => chk ops S0 steps = true ∧ k (mix S0 (fun _ => true) steps).clear) ops.toList [])
    (hk : ∀ st a' w', k st → Fr (ops.toList.filterMap (·.dst)) S0 st → Sim imp NL β st a' w' → Now NL wr w' → Q .normal a' w') : (Code.region id ops true).wp P Q a w := by
  obtain ⟨steps, ⟨hchk, hfin⟩, hlen, hfacts⟩ := qopsVC_steps (Q := Q) ops.toList [] (by simp) h (fun i o s _ hs => by simp at hs)
  simp only [List.length_nil, Nat.zero_add, Array.length_toList] at hlen
  refine wp_region_inv hm (fun listed a w => Sim imp NL β (mix S0 (Dof listed) steps) a w ∧ Now NL wr w ∧ Closed ops listed ∧ listed.size = ops.size) ?_ ?_ ?_
  · refine ⟨Sim.weaken (M := S0) ⟨hS.size, hS.slot, hS.defers, hS.loc, hS.inj, hS.nl, hS.impl, hS.impb⟩ ⟨by simp [mix, mixSlots_length], fun t => ?_, by simp [mix, mixLocs_length], fun l ty ys hl => ?_⟩, ⟨hn.os, hn.tape, hn.output, hn.size, hn.lt, hn.block⟩, fun j o _ hj => ?_, by simp⟩
    · rw [mix_get]
      split
      · unfold gM
        cases hx : look (Dof (Array.replicate ops.size false)) t 0 steps with
        | none => exact .inr rfl
        | some x =>
          left
          have : ∀ (st : List Stp) (k : Nat) (y : SV), look (Dof (Array.replicate ops.size false)) t k st = some y → y = .one .junk := by
            intro st
            induction st with
            | nil => intro k y h; simp [look] at h
            | cons s r ih =>
              intro k y h
              unfold look at h
              split at h
              · have hD : Dof (Array.replicate ops.size false) k = false := by
                  unfold Dof
                  rw [Array.getD_eq_getD_getElem?, Array.getElem?_replicate]
                  split <;> rfl
                rw [hD] at h
                exact (Option.some.inj h).symm
              · exact ih _ _ h
          rw [this _ _ _ hx]
          rfl
      · exact .inl rfl
    · simp only [mix, mixLocs_get, Nat.zero_add] at hl
      cases hx : S0.locs[l]? with
      | none => simp [hx] at hl
      | some x =>
        obtain ⟨ty', xs⟩ := x
        simp only [hx, Option.map_some, Option.some.injEq, Prod.mk.injEq] at hl
        obtain ⟨rfl, rfl⟩ := hl
        refine ⟨xs, rfl, by simp [mixXs_length], fun c x y hx' hy' => ?_⟩
        rw [mixXs_get, hx'] at hy'
        simp only [Option.map_some, Option.some.injEq] at hy'
        subst hy'
        exact .inr (cM_base fun j s' _ _ => by
          unfold Dof
          rw [Array.getD_eq_getD_getElem?, Array.getElem?_replicate]
          split <;> rfl)
    · rw [Array.getD_eq_getD_getElem?, Array.getElem?_replicate] at hj
      split at hj <;> cases hj
  · intro listed a w i hsz ⟨hI, hN, hcl, _⟩ hr
    obtain ⟨hun, o, ho, hall⟩ := mem_ready.1 hr
    have hi : i < listed.size := by
      rcases Nat.lt_or_ge i listed.size with h' | h'
      · exact h'
      · simp [Array.getElem?_eq_none h'] at hun
    have his : i < steps.length := by omega
    have hs : steps[i]? = some steps[i] := List.getElem?_eq_getElem his
    generalize steps[i] = s at hs
    obtain ⟨hd, hf⟩ := hfacts i o s ho hs
    have hle := le_qT hchk hs ho hun hall hcl
    have hcl' := closed_set ho hi hall hcl
    unfold wpOp
    simp only [ho]
    split at hf
    · rename_i hup
      have hp := hf β a w (hI.weaken hle) hN (fun a' w' => Sim imp NL β (mix S0 (Dof (listed.setIfInBounds i true)) steps) a' w' ∧ Now NL wr w' ∧ Closed ops (listed.setIfInBounds i true) ∧ (listed.setIfInBounds i true).size = ops.size) fun v w' hrel hfr hn' => by
        have hI' := semNow hI hfr
        have hst := mix_step hchk hs ho hd hi hun hcl hI' hrel
        have hlocs := mix_locs_none (S0 := S0) hs hup hi
        refine ⟨⟨?_, hst, ?_, ?_, ?_, ?_, ?_, hI'.impb⟩, hn', hcl', by simpa using hsz⟩
        · have : (a.put o.dst v).tmps.size = a.tmps.size := by cases o.dst <;> simp [Act.put]
          rw [this, hI.size]
          simp [mix, mixSlots_length]
        · have : (a.put o.dst v).defers = a.defers := by cases o.dst <;> rfl
          rw [this]; exact hI.defers
        · rw [hlocs]; exact hI'.loc
        · rw [hlocs]; exact hI'.inj
        · rw [hlocs]; exact hI'.nl
        · rw [hlocs]; exact hI'.impl
      split
      · rename_i hw; rw [if_pos hw] at hp; exact .inl hp
      · rename_i hw; rw [if_neg hw] at hp; exact hp
    · rename_i l off ys hup
      obtain ⟨hsv, hgn, ty, xs, hTl, hleT, hsure, hst⟩ := hf
      have hw : Region.wanted o (yielded ops a.tmps) = true := by simp [Region.wanted, hgn]
      rw [if_pos hw]
      left
      obtain ⟨vs, hv, hrun⟩ := hst β a w (hI.weaken hle)
      -- the block
      simp only [qT, maskLocs_get, Nat.zero_add] at hTl
      cases hx : S0.locs[l]? with
      | none => simp [hx] at hTl
      | some x =>
        obtain ⟨ty', xs0⟩ := x
        simp only [hx, Option.map_some, Option.some.injEq, Prod.mk.injEq] at hTl
        obtain ⟨rfl, rfl⟩ := hTl
        simp only [maskXs_length] at hleT
        obtain ⟨cs, hb, ha, h1⟩ := hI.loc l ty' (mixXs (Dof listed) steps l 0 xs0) (by simp [mix, mixLocs_get, hx])
        have hcl0 : xs0.length = cs.length := by have := ha.length; simpa [mixXs_length] using this
        have hvl := hv.length
        have := hrun cs hb (by omega)
        unfold Oper.wp
        rw [this, Oper.upon_skip]
        have hput : ∀ t, ((mix S0 (Dof (listed.setIfInBounds i true)) steps).get t).rel β (a.put o.dst undef).tmps ((a.put o.dst undef).tmps.getD t undef) := mix_step hchk hs ho hd hi hun hcl hI (by rw [hsv]; trivial)
        refine ⟨store_step hchk hs hup hi hI hx hleT hb ha h1 hv (sure_all hsure hv) hput (by cases o.dst <;> simp [Act.put]) ?_, hN.setRow (hI.nl l (by simp [mix, mixLocs_length]; exact (List.getElem?_eq_some_iff.1 hx).1)) _, hcl', by simpa using hsz⟩
        have : (a.put o.dst undef).defers = a.defers := by cases o.dst <;> rfl
        rw [this]; exact hI.defers
  · intro listed a w ⟨hI, hN, hcl, hsz⟩ hr
    have hall : ∀ j, j < ops.size → Dof listed j = true := by
      intro j
      induction j using Nat.strongRecOn with
      | _ j ih =>
        intro hj
        cases hD : listed.getD j true with
        | true =>
          rcases Nat.lt_or_ge j listed.size with h' | h'
          · unfold Dof
            simp [h'] at hD ⊢
            exact hD
          · omega
        | false =>
          have : j ∈ Region.ready .any ops listed := mem_ready.2 ⟨hD, ops[j], Array.getElem?_eq_getElem hj, fun e he hb => by
            have hord : chkOrd ops = true := by
              simp only [chk, Bool.and_eq_true] at hchk
              exact hchk.1.2
            simp only [chkOrd, List.all_eq_true] at hord
            have := hord (ops[j], j) (by rw [List.mem_zipIdx_iff_getElem?]; simp [hj]) e (by simpa using he)
            simp only [hb, Bool.not_true, Bool.false_or, decide_eq_true_eq] at this
            exact ih e.on this (by omega)⟩
          rw [hr] at this
          cases this
    have hmix : mix S0 (Dof listed) steps = mix S0 (fun _ => true) steps := by
      have hD : ∀ (j : Nat) (s : Stp), steps[j]? = some s → Dof listed j = true := fun j s hj => hall j (by have := (List.getElem?_eq_some_iff.1 hj).1; omega)
      unfold mix
      congr 1
      · apply List.ext_getElem?
        intro t
        simp only [mixSlots_get, Nat.zero_add]
        rw [look_congr (D := Dof listed) (D' := fun _ => true) fun j s hj _ => by rw [Nat.zero_add]; exact hD j s hj]
      · apply List.ext_getElem?
        intro l
        simp only [mixLocs_get, Nat.zero_add]
        cases S0.locs[l]? with
        | none => rfl
        | some x =>
          simp only [Option.map_some, Option.some.injEq, Prod.mk.injEq, true_and]
          apply List.ext_getElem?
          intro c
          simp only [mixXs_get, Nat.zero_add]
          cases x.2[c]? with
          | none => rfl
          | some f =>
            simp only [Option.map_some, Option.some.injEq]
            exact cM_congr fun j s hj _ => by rw [Nat.zero_add]; exact hD j s hj
    rw [hmix] at hI
    refine hk _ _ _ hfin ((mix_fr fun s hs t ht => ?_).trans .clear) hI.clear hN
    obtain ⟨i, hi⟩ := List.mem_iff_getElem?.1 hs
    have hlt : i < ops.size := by have := (List.getElem?_eq_some_iff.1 hi).1; omega
    have hd := (hfacts i ops[i] s (Array.getElem?_eq_getElem hlt) hi).1
    exact List.mem_filterMap.2 ⟨ops[i], by simp, by rw [← hd]; simpa using ht⟩

end
end Go.Eng
