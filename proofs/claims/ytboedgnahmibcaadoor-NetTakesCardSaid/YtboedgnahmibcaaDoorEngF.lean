/-
  The symbolic executor, part six: a region that draws its order comes to the mixed state of its lexical steps.
-/
import Derived.Test.YtboedgnahmibcaaDoorEngE
namespace Go.Eng
open Go Go.RowKit

section
variable {P : Program} {cfg : Cfg} {ops : Array Oper} {imp : List Nat} {NL : Nat → Prop} {wr : World} {o : Oper} {T : St}

/-- What an operation of a quiet region does, in whatever world: it puts a value that reads so. -/
def Puts (P : Program) (ops : Array Oper) (Q : Exit → Act → World → Prop) (imp : List Nat) (NL : Nat → Prop) (wr : World) (T : St) (o : Oper) (sv : SV) : Prop :=
  ∀ (β : Nat → Nat) (a : Act) (w : World), Sim imp NL β T a w → Now NL wr w → ∀ Kr : Act → World → Prop, (∀ v w', sv.rel β (a.put o.dst v).tmps v → Frm NL w w' NL → Now NL wr w' → Kr (a.put o.dst v) w') →
    if Region.wanted o (yielded ops a.tmps) then o.wp P a w Kr Q else Kr (a.put o.dst undef) w

/-- Or it stores into a tracked block. -/
def Stores (P : Program) (imp : List Nat) (NL : Nat → Prop) (T : St) (o : Oper) (l off : Nat) (ys : List FV) : Prop :=
  o.guard = none ∧ ∃ ty xs, T.locs[l]? = some (ty, xs) ∧ off + ys.length ≤ xs.length ∧ ys.all FV.sure = true ∧
    ∀ (β : Nat → Nat) (a : Act) (w : World), Sim imp NL β T a w → ∃ vs : List Value, All2 (FV.rel β) ys vs ∧ ∀ cs : List Value, w.heap[β l]? = some (.cells cs.toArray ty (0, 0)) → off + vs.length ≤ cs.length →
      (execOp a.eval o).run P w = .ok .skip (w.setRow (β l) (cs.take off ++ vs ++ cs.drop (off + vs.length)).toArray)

theorem storeQ_sound {l off : Nat} {ys : List FV} (hg : o.guard = none) (h : storeQ P T [] o = some (l, off, ys)) : Stores P imp NL T o l off ys := by
  obtain ⟨dst, op, type, pos, after, guard⟩ := o
  cases op <;> simp only [storeQ] at h <;> try (cases h; done)
  case store t p x =>
    split at h
    · rename_i l' off' e
      split at h
      · rename_i ty xs ys' i hl hy hi
        split at h
        · rename_i hh
          obtain ⟨h1, h2, h3⟩ := hh
          simp only [Option.some.injEq, Prod.mk.injEq] at h
          obtain ⟨rfl, rfl, rfl⟩ := h
          refine ⟨hg, ty, xs, hl, h2, h3, fun β a w hS => ?_⟩
          have hch : chOK [] a.tmps := fun _ hx => by cases hx
          have hp := ev_rel hS hch p
          rw [e] at hp
          have hp' : a.eval p = .pointer (some ⟨β l', off', none⟩) := hp
          have hcells := cellsSV_rel hy h3 (ev_rel hS hch x)
          have hone := sure_all h3 hcells
          refine ⟨_, hcells, fun cs hb hle => ?_⟩
          have hlen := hcells.length
          have hst := run_storeCells_at P (β l') off' ty (a.eval x).cells.toList 0 cs.toArray w hb (by simpa using hle) hone
          have hsz : (a.eval x).cells.size = i.size := by simp at hlen; omega
          have hsv : (storeVar t ⟨β l', off', none⟩ (a.eval x)).run P w = .ok () (w.setRow (β l') (cs.take off' ++ (a.eval x).cells.toList ++ cs.drop (off' + (a.eval x).cells.toList.length)).toArray) := by
            simp [storeVar, sizeOf, typeInfo, hi, hsz]
            simpa [hsz] using hst
          simp only [execOp, Instr.storeAt, hp', Instr.sureAddr, Sem.run_bind, Sem.run_pure, Result.andThen_ok, hsv]
        · cases h
      · cases h
    · cases h

theorem qopVC_sound {Q : Exit → Act → World → Prop} {k : SV → Option (Nat × Nat × List FV) → Prop} {g : Option (Nat × Bool)} (hg : guardSlot ops o = some g) (hself : selfGuard o.dst g = false) (h : qopVC P cfg T o g wr NL k) :
    ∃ sv up, k sv up ∧ match up with
      | none => Puts P ops Q imp NL wr T o sv
      | some (l, off, ys) => sv = .one .junk ∧ Stores P imp NL T o l off ys := by
  have hgd : (g = none ∧ o.guard = none) ∨ ∃ s want j, g = some (s, want) ∧ o.guard = some (j, want) ∧ (ops[j]?).bind (·.dst) = some s := by
    unfold guardSlot at hg
    split at hg
    · rename_i e; exact .inl ⟨(Option.some.inj hg).symm, e⟩
    · rename_i j want e
      split at hg
      · rename_i s hs; exact .inr ⟨s, want, j, (Option.some.inj hg).symm, e, hs⟩
      · cases hg
  unfold qopVC at h
  dsimp only at h
  split at h
  · rename_i u hu
    split at h
    · obtain ⟨l, off, ys⟩ := u
      have hgn : o.guard = none := by
        rcases hgd with ⟨_, h⟩ | ⟨_, _, _, h, _⟩
        · exact h
        · cases h
      exact ⟨_, _, h, rfl, storeQ_sound hgn hu⟩
    · exact h.elim
  · rcases hgd with ⟨rfl, hgn⟩ | ⟨s, want, j, rfl, hgs, hs⟩
    · have hw : ∀ tm, Region.wanted o (yielded ops tm) = true := fun tm => by simp [Region.wanted, hgn]
      have hch : ∀ a : Act, chOK [] a.tmps := fun _ _ hx => by cases hx
      simp only [chainOf] at h
      split at h
      · rename_i sv hr
        refine ⟨_, none, h, fun β a w hS hn Kr hK => ?_⟩
        rw [if_pos (hw _)]
        obtain ⟨hng, v, hv, hrel⟩ := localOp_run hS (hch a) hr
        unfold Oper.wp
        rw [hv, Oper.upon_value]
        exact hK v w (rel_ng hng hrel) (.refl _ _) hn
      · exact h.elim
      · split at h
        · rename_i p hq
          obtain ⟨sv, hk1, hng, hqu⟩ := quietVC_sound (imp := imp) (Q := Q) hq h
          refine ⟨_, none, hk1, fun β a w hS hn Kr hK => ?_⟩
          rw [if_pos (hw _)]
          exact hqu β a w hS (hch a) hn trivial Kr fun v w' hrel hf hn' => hK v w' (rel_ng hng hrel) hf hn'
        · exact h.elim
    · have hwi : ∀ tm, Region.wanted o (yielded ops tm) = true ↔ tm[s]? = some (.bool want) := wanted_slot hgs hs
      have hne : ∀ d, o.dst = some d → d ≠ s := fun d hd => by rw [hd] at hself; simpa [selfGuard] using hself
      have off : ∀ {β : Nat → Nat} {a : Act} {sv : SV}, sv.ng = true → a.tmps[s]? ≠ some (.bool want) → (SV.gd s want sv).rel β (a.put o.dst undef).tmps undef := fun {β a sv} hng hw => by
        cases hd : o.dst with
        | none => exact ⟨hng, fun h => absurd h hw, fun _ => rfl⟩
        | some d => exact gd_rel_off (hne d hd) hng hw _
      have on : ∀ {β : Nat → Nat} {a : Act} {sv : SV} {v : Value}, sv.ng = true → a.tmps[s]? = some (.bool want) → sv.rel β a.tmps v → (SV.gd s want sv).rel β (a.put o.dst v).tmps v := fun {β a sv v} hng hw hr => by
        cases hd : o.dst with
        | none => exact ⟨hng, fun _ => hr, fun h => absurd hw h⟩
        | some d => exact gd_rel (hne d hd) hng hw hr _
      simp only [wrapG] at h
      split at h
      · rename_i sv hr
        refine ⟨_, none, h, fun β a w hS hn Kr hK => ?_⟩
        by_cases hw : a.tmps[s]? = some (.bool want)
        · rw [if_pos ((hwi _).2 hw)]
          obtain ⟨hng, v, hv, hrel⟩ := localOp_run hS (chain_ok hS 4 (s, want) hw) hr
          unfold Oper.wp
          rw [hv, Oper.upon_value]
          exact hK v w (on hng hw hrel) (.refl _ _) hn
        · rw [if_neg (fun h => hw ((hwi _).1 h))]
          exact hK undef w (off (localOp_ng hr) hw) (.refl _ _) hn
      · exact h.elim
      · split at h
        · rename_i p hq
          obtain ⟨sv, hk1, hng, hqu⟩ := quietVC_sound (imp := imp) (Q := Q) hq h
          refine ⟨_, none, hk1, fun β a w hS hn Kr hK => ?_⟩
          by_cases hw : a.tmps[s]? = some (.bool want)
          · rw [if_pos ((hwi _).2 hw)]
            exact hqu β a w hS (chain_ok hS 4 (s, want) hw) hn (gcond_of hS 5 (s, want) hw) Kr fun v w' hrel hf hn' => hK v w' (on hng hw hrel) hf hn'
          · rw [if_neg (fun h => hw ((hwi _).1 h))]
            exact hK undef w (off hng hw) (.refl _ _) hn
        · exact h.elim

/-! ### the checks on a region's steps -/
def bindsOn (o : Oper) (j : Nat) : Bool := o.after.toList.any fun e => Region.binds .any e && e.on == j

/-- The same, through others. -/
def bindsT (ops : Array Oper) : Nat → Oper → Nat → Bool
  | 0, o, j => bindsOn o j
  | n + 1, o, j => bindsOn o j || o.after.toList.any fun e => Region.binds .any e && (match ops[e.on]? with | some o' => bindsT ops n o' j | none => false)

def chkDeps (ops : Array Oper) (steps : List Stp) (i : Nat) (s : Stp) : Bool :=
  s.reads.all fun t => (steps.zipIdx).all fun p => !(p.1.dst == some t) || (decide (p.2 < i) && match ops[i]? with | some o => bindsT ops 3 o p.2 | none => false)

def apartR (l off n : Nat) (l' off' n' : Nat) : Bool := l != l' || decide (off + n ≤ off') || decide (off' + n' ≤ off)

def chkCells (ops : Array Oper) (steps : List Stp) (i : Nat) (s : Stp) : Bool :=
  (steps.zipIdx).all fun p => match p.1.up with
    | none => true
    | some (l, off, ys) =>
      (match s.keep with
        | none => true
        | some (l', lo, n) => apartR l off ys.length l' lo n || (match ops[p.2]? with | some o => bindsOn o i | none => false)) &&
      (match s.up with
        | none => true
        | some (l', off', ys') => p.2 == i || apartR l off ys.length l' off' ys'.length)

def chkGd (s : Stp) : Bool := match s.sv with
  | .gd s' _ _ => s.reads.contains s'
  | _ => true

def chkDst (steps : List Stp) (i : Nat) (s : Stp) : Bool := (steps.zipIdx).all fun p => p.2 == i || p.1.dst.isNone || !(p.1.dst == s.dst)

def chkOrd (ops : Array Oper) : Bool := (ops.toList.zipIdx).all fun p => p.1.after.toList.all fun e => !Region.binds .any e || decide (e.on < p.2)

def chk (ops : Array Oper) (S0 : St) (steps : List Stp) : Bool :=
  (S0.slots.all SV.ng && chkOrd ops) && (steps.zipIdx).all fun p => chkDeps ops steps p.2 p.1 && chkCells ops steps p.2 p.1 && chkGd p.1 && chkDst steps p.2 p.1

end
end Go.Eng
