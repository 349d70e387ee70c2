/- Part of the proofs of this seat: lemmas about calls of functions of the program (Con14); each states its own conditions. -/
import Derived.Test.YtboedgnahmibcaaDoorCon13
set_option linter.unusedVariables false
set_option linter.unusedSimpArgs false
namespace Go.Proofs.YtboedgnahmibcaaDoor
open Go Go.Eng Go.RowKit Go.Pal

theorem c30 {w : World} : Calls Tryd.prog 30 #[] w (Ret w (.bool true)) := by
  have q1 : sent [] (qM 1) = (0, [qM 1]) := by simp [sent, isB_q]
  have q2 : sent [qM 1] (qM 2) = (0, [qM 1, qM 2]) := by simp [sent, isB_q]
  have q3 : sent [qM 1, qM 2] MGz = (30, [qM 1, qM 2]) := by simp [sent, isB_z]
  have q4 : sent [qM 2] (qM 2) = (0, [qM 2, qM 2]) := by simp [sent, isB_q]
  refine vc_30 w _ fun w0 hn0 => ⟨_, ⟨c31⟩, fun e w3 ⟨p, he, hp, hbag, hb3⟩ => ⟨⟨p, 0, none⟩, he, Below.keeps hb3, qM 1, fun _ w6 hn6 => callsE (c41 1), fun _ w9 hn9 => ?_, fun hx => by simp at hx⟩⟩
  have a9 := (BagAt.new hn0 hp hbag hb3).now hn9
  have k := c32 a9.bag (bare_q 1) (by decide) (by decide) (by simp)
  rw [q1] at k
  refine ⟨_, ⟨k⟩, fun e w12 ⟨s1, he, hb, hu, hm⟩ => ⟨0, he, a9.keeps hu, qM 2, fun _ w15 hn => callsE (c41 2), fun _ w18 hn18 => ?_, fun hx => by simp at hx⟩⟩
  have a18 := (a9.call hb hu hm).now hn18
  have k := c32 a18.bag (bare_q 2) (by decide) (by decide) (by simp)
  rw [q2] at k
  refine ⟨_, ⟨k⟩, fun e w21 ⟨s2, he, hb, hu, hm⟩ => ⟨0, he, a18.keeps hu, fun _ w23 hn23 => ?_, fun hx => by simp at hx⟩⟩
  have a23 := (a18.call hb hu hm).now hn23
  have k := c32 a23.bag bare_z (by decide) (by decide) (by simp)
  rw [q3] at k
  refine ⟨_, ⟨k⟩, fun e w26 ⟨s3, he, hb, hu, hm⟩ => ⟨30, he, a23.keeps hu, fun hx => by simp at hx, fun _ w29 hn29 => ?_⟩⟩
  have a29 := (a23.call hb hu hm).now hn29
  have k := c35a a29.bag (k := 0) (m := qM 1) rfl
  refine ⟨_, ⟨k⟩, fun e w32 ⟨s4, he, hb, hu, hm⟩ => ⟨qM 1, 0, he, a29.keeps hu, fun w35 hn35 => ?_⟩⟩
  have a35 := (a29.call hb hu hm).now hn35
  have k := c35b a35.bag (i := 5) (.inr (by simp))
  refine ⟨_, ⟨k⟩, fun e w38 ⟨he, hb⟩ => ⟨MGz, 61, he, Below.keeps hb, 1, fun _ w42 hn42 => ?_, fun _ w45 hn45 => ?_, fun hx => by simp [qM] at hx⟩⟩
  · have a42 := (a35.quiet hb).now hn42
    exact callsE (c33 a42.bag)
  have a45 := (a35.quiet hb).now hn45
  have k := c37a a45.bag (by simp) (k := 0) (m := qM 2) rfl (by decide) (by decide)
  rw [show ([qM 1, qM 2].eraseIdx 0) = [qM 2] from rfl, q4] at k
  refine ⟨_, ⟨k⟩, fun e w48 ⟨s5, he, hb, hu, hm⟩ => ⟨0, he, a45.keeps hu, 2, fun _ w51 hn51 => ?_, fun w54 hn54 _ => ?_⟩⟩
  · exact callsE (c33 ((a45.call hb hu hm).now hn51).bag)
  · exact ⟨rfl, ((a45.call hb hu hm).now hn54).below⟩
end Go.Proofs.YtboedgnahmibcaaDoor
