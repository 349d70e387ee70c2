/-
  The symbolic executor, part seven: the invariant over all orders.
-/
import Derived.Test.YtboedgnahmibcaaDoorEngF
namespace Go.Eng
open Go Go.RowKit

theorem look_none {D : Nat → Bool} {t : Nat} : ∀ {steps : List Stp} {k : Nat}, (∀ (j : Nat) (s : Stp), steps[j]? = some s → s.dst ≠ some t) → look D t k steps = none
  | [], _, _ => rfl
  | s :: r, k, h => by
    unfold look
    rw [if_neg (h 0 s rfl)]
    exact look_none fun j s' hj => h (j + 1) s' (by simpa using hj)

theorem look_some {D : Nat → Bool} {t : Nat} : ∀ {steps : List Stp} {k j : Nat} {s : Stp}, steps[j]? = some s → s.dst = some t → (∀ (j' : Nat) (s' : Stp), steps[j']? = some s' → s'.dst = some t → j' = j) →
    look D t k steps = some (if D (k + j) then s.sv else .one .junk)
  | [], _, _, _, h, _, _ => by simp at h
  | s0 :: r, k, 0, s, h, hd, _ => by
    simp at h
    subst h
    unfold look
    rw [if_pos hd]
    rfl
  | s0 :: r, k, j + 1, s, h, hd, hu => by
    unfold look
    have hne : s0.dst ≠ some t := fun e => by have := hu 0 s0 rfl e; omega
    rw [if_neg hne, look_some (k := k + 1) (j := j) (s := s) (by simpa using h) hd (fun j' s' h1 h2 => by have := hu (j' + 1) s' (by simpa using h1) h2; omega)]
    rw [Nat.add_assoc, Nat.add_comm 1 j]

theorem look_congr {D D' : Nat → Bool} {t : Nat} : ∀ {steps : List Stp} {k : Nat}, (∀ (j : Nat) (s : Stp), steps[j]? = some s → s.dst = some t → D (k + j) = D' (k + j)) → look D t k steps = look D' t k steps
  | [], _, _ => rfl
  | s :: r, k, h => by
    unfold look
    split
    · rename_i e
      have := h 0 s rfl e
      simp only [Nat.add_zero] at this
      rw [this]
    · exact look_congr fun j s' hj hd => by have := h (j + 1) s' (by simpa using hj) hd; rwa [show k + 1 + j = k + (j + 1) from by omega]

theorem look_gd {D : Nat → Bool} {t : Nat} {x : SV} : ∀ {steps : List Stp} {k : Nat}, look D t k steps = some x → x.ng = false → ∃ (j : Nat) (s : Stp), steps[j]? = some s ∧ D (k + j) = true ∧ s.sv = x
  | [], _, h, _ => by simp [look] at h
  | s :: r, k, h, hx => by
    unfold look at h
    split at h
    · obtain rfl := Option.some.inj h
      by_cases hD : D k = true
      · exact ⟨0, s, rfl, hD, by simp [hD]⟩
      · simp [hD, SV.ng] at hx
    · obtain ⟨j, s', h1, h2, h3⟩ := look_gd h hx
      exact ⟨j + 1, s', by simpa using h1, by rwa [show k + (j + 1) = k + 1 + j from by omega], h3⟩

theorem cM_base {D : Nat → Bool} {l c : Nat} {f : FV} : ∀ {steps : List Stp} {k : Nat}, (∀ (j : Nat) (s : Stp), steps[j]? = some s → inUp l c s.up ≠ none → D (k + j) = false) → cM D l c f k steps = f
  | [], _, _ => rfl
  | s :: r, k, h => by
    unfold cM
    split
    · rename_i y e
      have := h 0 s rfl (by rw [e]; simp)
      simp only [Nat.add_zero] at this
      rw [this]
      rfl
    · exact cM_base fun j s' hj hu => by have := h (j + 1) s' (by simpa using hj) hu; rwa [show k + 1 + j = k + (j + 1) from by omega]

theorem cM_congr {D D' : Nat → Bool} {l c : Nat} {f : FV} : ∀ {steps : List Stp} {k : Nat}, (∀ (j : Nat) (s : Stp), steps[j]? = some s → inUp l c s.up ≠ none → D (k + j) = D' (k + j)) → cM D l c f k steps = cM D' l c f k steps
  | [], _, _ => rfl
  | s :: r, k, h => by
    unfold cM
    split
    · rename_i y e
      have := h 0 s rfl (by rw [e]; simp)
      simp only [Nat.add_zero] at this
      rw [this]
    · exact cM_congr fun j s' hj hu => by have := h (j + 1) s' (by simpa using hj) hu; rwa [show k + 1 + j = k + (j + 1) from by omega]

theorem cM_at {D : Nat → Bool} {l c : Nat} {f y : FV} : ∀ {steps : List Stp} {k j : Nat} {s : Stp}, steps[j]? = some s → inUp l c s.up = some y → D (k + j) = true → (∀ (j' : Nat) (s' : Stp), steps[j']? = some s' → inUp l c s'.up ≠ none → j' = j) →
    cM D l c f k steps = y
  | [], _, _, _, h, _, _, _ => by simp at h
  | s0 :: r, k, 0, s, h, hu, hD, _ => by
    simp at h
    subst h
    unfold cM
    simp only [Nat.add_zero] at hD
    rw [hu]
    simp [hD]
  | s0 :: r, k, j + 1, s, h, hu, hD, hun => by
    unfold cM
    have hne : inUp l c s0.up = none := by
      cases e : inUp l c s0.up with
      | none => rfl
      | some z => have := hun 0 s0 rfl (by rw [e]; simp); omega
    rw [hne]
    exact cM_at (k := k + 1) (j := j) (s := s) (by simpa using h) hu (by rwa [show k + 1 + j = k + (j + 1) from by omega]) fun j' s' h1 h2 => by have := hun (j' + 1) s' (by simpa using h1) h2; omega

theorem inUp_some {l c : Nat} {y : FV} {u : Option (Nat × Nat × List FV)} (h : inUp l c u = some y) : ∃ off ys, u = some (l, off, ys) ∧ off ≤ c ∧ c < off + ys.length ∧ ys[c - off]? = some y := by
  unfold inUp at h
  split at h
  · rename_i l' off ys
    split at h
    · rename_i hc
      obtain ⟨rfl, hle⟩ := hc
      have := (List.getElem?_eq_some_iff.1 h).1
      exact ⟨off, ys, rfl, hle, by omega, h⟩
    · cases h
  · cases h

section
variable {P : Program} {cfg : Cfg} {ops : Array Oper} {imp : List Nat} {NL : Nat → Prop} {wr : World} {S0 : St} {Q : Exit → Act → World → Prop}

def Fact (P : Program) (ops : Array Oper) (Q : Exit → Act → World → Prop) (imp : List Nat) (NL : Nat → Prop) (wr : World) (S0 : St) (steps : List Stp) (i : Nat) (o : Oper) (s : Stp) : Prop :=
  s.dst = o.dst ∧ match s.up with
    | none => Puts P ops Q imp NL wr (qT S0 (steps.take i) s.reads s.keep) o s.sv
    | some (l, off, ys) => s.sv = .one .junk ∧ Stores P imp NL (qT S0 (steps.take i) s.reads s.keep) o l off ys

theorem qopsVC_steps {k : List Stp → Prop} : ∀ (rest : List Oper) (pre : List Stp), (∀ j, rest[j]? = ops[pre.length + j]?) → qopsVC P cfg ops S0 wr NL k rest pre →
    (∀ (i : Nat) (o : Oper) (s : Stp), ops[i]? = some o → pre[i]? = some s → Fact P ops Q imp NL wr S0 pre i o s) →
    ∃ steps, k steps ∧ steps.length = pre.length + rest.length ∧ ∀ (i : Nat) (o : Oper) (s : Stp), ops[i]? = some o → steps[i]? = some s → Fact P ops Q imp NL wr S0 steps i o s
  | [], pre, _, h, hf => ⟨pre, h, by simp, hf⟩
  | o :: rest, pre, hl, h, hf => by
    unfold qopsVC at h
    split at h
    · exact h.elim
    · rename_i g hg
      split at h
      · exact h.elim
      · rename_i hself
        dsimp only at h
        obtain ⟨sv, up, h1, h2⟩ := qopVC_sound (Q := Q) hg (by simpa using hself) h
        have h0 : ops[pre.length]? = some o := by have := hl 0; simpa using this.symm
        obtain ⟨steps, hk, hlen, hfs⟩ := qopsVC_steps rest _ (fun j => by have := hl (j + 1); simp at this ⊢; rw [this]; congr 1; omega) h1 (fun i o' s hi hs => by
          rcases Nat.lt_trichotomy i pre.length with hlt | heq | hgt
          · rw [List.getElem?_append_left hlt] at hs
            have := hf i o' s hi hs
            unfold Fact at this ⊢
            rw [List.take_append_of_le_length (by omega)]
            exact this
          · subst heq
            simp at hs
            subst hs
            obtain rfl := Option.some.inj (h0.symm.trans hi)
            unfold Fact
            simp only [List.take_left']
            exact ⟨by first | rfl | trivial, by cases up <;> exact h2⟩
          · rw [List.getElem?_append_right (by omega)] at hs
            have : i - pre.length ≠ 0 := by omega
            obtain ⟨m, hm⟩ : ∃ m, i - pre.length = m + 1 := ⟨i - pre.length - 1, by omega⟩
            rw [hm] at hs
            simp at hs)
        exact ⟨steps, hk, by simp at hlen ⊢; omega, hfs⟩

theorem chk_at {steps : List Stp} (h : chk ops S0 steps = true) {i : Nat} {s : Stp} (hs : steps[i]? = some s) : chkDeps ops steps i s = true ∧ chkCells ops steps i s = true ∧ chkGd s = true ∧ chkDst steps i s = true := by
  simp only [chk, Bool.and_eq_true, List.all_eq_true] at h
  have := h.2 (s, i) (by
    rw [List.mem_zipIdx_iff_getElem?]
    simpa using hs)
  simp only at this
  exact ⟨this.1.1.1, this.1.1.2, this.1.2, this.2⟩

theorem deps_at {steps : List Stp} {i : Nat} {s : Stp} (h : chkDeps ops steps i s = true) {t : Nat} (ht : s.reads.contains t = true) {j : Nat} {s' : Stp} (hj : steps[j]? = some s') (hd : s'.dst = some t) : j < i ∧ ∃ o, ops[i]? = some o ∧ bindsT ops 3 o j = true := by
  simp only [chkDeps, List.all_eq_true] at h
  have := h t (by simpa using ht) (s', j) (by rw [List.mem_zipIdx_iff_getElem?]; simpa using hj)
  simp only [hd, beq_self_eq_true, Bool.not_true, Bool.false_or, Bool.and_eq_true, decide_eq_true_eq] at this
  refine ⟨this.1, ?_⟩
  have h2 := this.2
  split at h2
  · rename_i o ho; exact ⟨o, ho, h2⟩
  · cases h2

theorem dst_at {steps : List Stp} {i : Nat} {s : Stp} (h : chkDst steps i s = true) {t j : Nat} {s' : Stp} (hd : s.dst = some t) (hj : steps[j]? = some s') (hd' : s'.dst = some t) : j = i := by
  simp only [chkDst, List.all_eq_true] at h
  have := h (s', j) (by rw [List.mem_zipIdx_iff_getElem?]; simpa using hj)
  simp [hd, hd'] at this
  exact this

theorem cells_at {steps : List Stp} {i : Nat} {s : Stp} (h : chkCells ops steps i s = true) {j : Nat} {s' : Stp} (hj : steps[j]? = some s') {l off : Nat} {ys : List FV} (hu : s'.up = some (l, off, ys)) :
    (∀ l' lo n, s.keep = some (l', lo, n) → apartR l off ys.length l' lo n = true ∨ ∃ o, ops[j]? = some o ∧ bindsOn o i = true) ∧
    (∀ l' off' ys', s.up = some (l', off', ys') → j = i ∨ apartR l off ys.length l' off' ys'.length = true) := by
  simp only [chkCells, List.all_eq_true] at h
  have := h (s', j) (by rw [List.mem_zipIdx_iff_getElem?]; simpa using hj)
  simp only [hu, Bool.and_eq_true] at this
  refine ⟨fun l' lo n hk => ?_, fun l' off' ys' hu' => ?_⟩
  · have h1 := this.1
    simp only [hk, Bool.or_eq_true] at h1
    refine h1.imp id fun h2 => ?_
    split at h2
    · rename_i o ho; exact ⟨o, ho, h2⟩
    · cases h2
  · have h1 := this.2
    simp only [hu', Bool.or_eq_true, beq_iff_eq] at h1
    exact h1

theorem apart_no {l off n l' off' n' c : Nat} (h : apartR l off n l' off' n' = true) (e : l = l') (h1 : off ≤ c) (h2 : c < off + n) (h3 : off' ≤ c) (h4 : c < off' + n') : False := by
  simp only [apartR, Bool.or_eq_true, bne_iff_ne, decide_eq_true_eq] at h
  omega


def Dof (listed : Array Bool) : Nat → Bool := fun j => listed.getD j false

def Closed (ops : Array Oper) (listed : Array Bool) : Prop := ∀ (j : Nat) (o : Oper), ops[j]? = some o → listed.getD j false = true → ∀ i, bindsOn o i = true → listed.getD i false = true

theorem Closed.thru {ops : Array Oper} {listed : Array Bool} (hc : Closed ops listed) : ∀ (n : Nat) (o : Oper), (∀ i, bindsOn o i = true → listed.getD i false = true) → ∀ i, bindsT ops n o i = true → listed.getD i false = true
  | 0, o, h, i, hb => h i hb
  | n + 1, o, h, i, hb => by
    simp only [bindsT, Bool.or_eq_true, List.any_eq_true, Bool.and_eq_true] at hb
    rcases hb with hb | ⟨e, he, hb1, hb2⟩
    · exact h i hb
    · split at hb2
      · rename_i o' ho'
        have : listed.getD e.on false = true := h e.on (by simp only [bindsOn, List.any_eq_true, Bool.and_eq_true, beq_iff_eq]; exact ⟨e, he, hb1, rfl⟩)
        exact hc.thru n o' (hc e.on o' ho' this) i hb2
      · cases hb2

theorem qT_get (steps : List Stp) (reads : List Nat) (keep : Option (Nat × Nat × Nat)) (t : Nat) : (qT S0 steps reads keep).get t = .one .junk ∨ (reads.contains t = true ∧ t < S0.slots.length ∧ (qT S0 steps reads keep).get t = (look (fun _ => true) t 0 steps).getD (S0.get t)) := by
  simp only [qT, St.get, List.getD_eq_getElem?_getD, restr_get, mixSlots_get, Nat.zero_add]
  cases h : S0.slots[t]? with
  | none => exact .inl rfl
  | some x =>
    by_cases hr : reads.contains t = true
    · exact .inr ⟨hr, (List.getElem?_eq_some_iff.1 h).1, by simp only [Option.map_some, Option.getD_some]; rw [if_pos hr]⟩
    · left; simp only [Option.map_some, Option.getD_some, hr]; rfl

theorem ready_not {listed : Array Bool} {i : Nat} (h : listed.getD i true = false) : listed.getD i false ≠ true := by
  rcases Nat.lt_or_ge i listed.size with h' | h'
  · simp [h'] at h ⊢; exact h
  · simp [Array.getElem?_eq_none h'] at h

theorem le_qT {steps : List Stp} {listed : Array Bool} {i : Nat} {o : Oper} {s : Stp} (hchk : chk ops S0 steps = true) (hs : steps[i]? = some s) (ho : ops[i]? = some o)
    (hun : listed.getD i true = false) (hall : ∀ e ∈ o.after, Region.binds .any e = true → listed.getD e.on false = true) (hcl : Closed ops listed) :
    Le (mix S0 (Dof listed) steps) (qT S0 (steps.take i) s.reads s.keep) := by
  obtain ⟨hdeps, hcells, _, _⟩ := chk_at hchk hs
  have hbind : ∀ j, bindsOn o j = true → listed.getD j false = true := fun j hj => by
    simp only [bindsOn, List.any_eq_true] at hj
    obtain ⟨e, he, hb⟩ := hj
    have he : e ∈ o.after := by simpa using he
    simp only [Bool.and_eq_true, beq_iff_eq] at hb
    have := hall e he hb.1
    rwa [hb.2] at this
  refine ⟨by simp [mix, qT, mixSlots_length, restr_length], fun t => ?_, by simp [mix, qT, mixLocs_length, maskLocs_length], fun l ty ys h => ?_⟩
  · rcases qT_get (S0 := S0) (steps.take i) s.reads s.keep t with e | ⟨hr, hlt, e⟩
    · exact .inl e
    · refine .inr ?_
      rw [e, mix_get, if_pos hlt, gM]
      by_cases hw : ∃ (j : Nat) (s' : Stp), steps[j]? = some s' ∧ s'.dst = some t
      · obtain ⟨j, s', hj, hd⟩ := hw
        obtain ⟨hji, o', ho', hb⟩ := deps_at hdeps hr hj hd
        obtain rfl := Option.some.inj (ho.symm.trans ho')
        have huniq : ∀ (j' : Nat) (s'' : Stp), steps[j']? = some s'' → s''.dst = some t → j' = j := fun j' s'' h1 h2 => dst_at (chk_at hchk hj).2.2.2 hd h1 h2
        have hD : Dof listed j = true := hcl.thru 3 o hbind j hb
        rw [look_some hj hd huniq, look_some (steps := steps.take i) (j := j) (s := s') (by rw [List.getElem?_take, if_pos hji]; exact hj) hd (fun j' s'' h1 h2 => huniq j' s'' (by
          rw [List.getElem?_take] at h1
          split at h1
          · exact h1
          · cases h1) h2)]
        simp [hD]
      · have hno : ∀ (j : Nat) (s' : Stp), steps[j]? = some s' → s'.dst ≠ some t := fun j s' h1 h2 => hw ⟨j, s', h1, h2⟩
        rw [look_none hno, look_none (steps := steps.take i) fun j s' h1 => hno j s' (by
          rw [List.getElem?_take] at h1
          split at h1
          · exact h1
          · cases h1)]
  · simp only [qT, maskLocs_get, Nat.zero_add] at h
    cases hx : S0.locs[l]? with
    | none => simp [hx] at h
    | some x =>
      obtain ⟨ty', xs⟩ := x
      simp only [hx, Option.map_some, Option.some.injEq, Prod.mk.injEq] at h
      obtain ⟨rfl, rfl⟩ := h
      refine ⟨mixXs (Dof listed) steps l 0 xs, by simp [mix, mixLocs_get, hx], by simp [mixXs_length, maskXs_length], fun c x y hx' hy' => ?_⟩
      rw [mixXs_get] at hx'
      rw [maskXs_get] at hy'
      cases hf : xs[c]? with
      | none => simp [hf] at hx'
      | some f =>
        simp only [hf, Option.map_some, Option.some.injEq, Nat.zero_add] at hx' hy'
        subst hx'
        subst hy'
        split
        · rename_i l' lo n hk
          split
          · rename_i hc
            obtain ⟨rfl, h1, h2⟩ := hc
            right
            refine (cM_base fun j s' hj hu => ?_).symm
            rw [Nat.zero_add]
            cases hup : inUp l' c s'.up with
            | none => exact absurd hup hu
            | some y =>
              obtain ⟨off, ys, e1, e2, e3, _⟩ := inUp_some hup
              rcases (cells_at hcells hj e1).1 l' lo n hk with ha | ⟨o', ho', hb⟩
              · exact (apart_no ha rfl e2 e3 h1 h2).elim
              · cases hD : Dof listed j with
                | false => rfl
                | true => exact absurd (hcl j o' ho' hD i hb) (ready_not hun)
          · exact .inl rfl
        · exact .inl rfl


theorem mix_fr {ws : List Nat} {D : Nat → Bool} {steps : List Stp} (hd : ∀ s ∈ steps, ∀ t ∈ s.dst.toList, t ∈ ws) : Fr ws S0 (mix S0 D steps) := by
  refine ⟨fun t ht _ => ?_, by simp [mix, mixLocs_length], by simp [mix, mixSlots_length], ?_, ?_, ?_, ?_⟩
  · rw [mix_get]
    split
    · unfold gM
      rw [look_none fun j s hj e => ht (hd s (List.mem_of_getElem? hj) t (by rw [e]; simp))]
      rfl
    · rename_i h
      simp only [St.get, List.getD_eq_getElem?_getD]
      rw [List.getElem?_eq_none (by omega)]
      rfl
  · simp only [mix]; cases S0.dirt <;> rfl
  · simp only [mix]; cases S0.dirt <;> simp [soilAll]
  · intro i hi
    simp only [mix]
    cases hd' : S0.dirt with
    | nil => rw [hd'] at hi; simp [top] at hi
    | cons d r => rw [hd'] at hi; simp only [soilAll, top] at hi ⊢; exact List.mem_append_right _ hi
  · intro hne i hi hn
    simp only [mix] at hn ⊢
    cases hd' : S0.dirt with
    | nil => exact absurd hd' hne
    | cons d r =>
      rw [hd'] at hn
      simp only [soilAll, top, List.mem_append, not_or] at hn
      rw [mixLocs_get, Nat.zero_add]
      cases hx : S0.locs[i]? with
      | none => rfl
      | some x =>
        simp only [Option.map_some, Option.some.injEq]
        refine Prod.ext rfl ?_
        apply List.ext_getElem?
        intro c
        rw [mixXs_get, Nat.zero_add]
        cases hf : x.2[c]? with
        | none => rfl
        | some f =>
          simp only [Option.map_some, Option.some.injEq]
          refine cM_base fun j s hj hu => ?_
          exfalso
          cases hz : inUp i c s.up with
          | none => exact hu hz
          | some y =>
            obtain ⟨off, ys, e1, _⟩ := inUp_some hz
            exact hn.1 (List.mem_filterMap.2 ⟨s, List.mem_of_getElem? hj, by rw [e1]; rfl⟩)

end
end Go.Eng
