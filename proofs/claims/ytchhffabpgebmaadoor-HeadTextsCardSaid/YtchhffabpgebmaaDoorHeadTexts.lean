/-
  HeadTexts: the walk of the law. No condition.
-/
import Derived.Test.YtchhffabpgebmaaDoorParseW1
set_option linter.unusedVariables false
set_option linter.unusedSimpArgs false
namespace Go.Proofs.YtchhffabpgebmaaDoor
open Go.RowKit Extern.Stop
theorem HeadTexts_walk : WalkedL (Rows.headTextsRow.laid) 7 [26] := by
  intro vs W hl ha hL
  match vs, hl with
  | [v0], _ =>
    obtain ⟨h, rfl, lh⟩ := hd_of (ha 0 _ v0 rfl rfl)
    obtain ⟨g1, g2⟩ := glb_of hL (by simp [Rows.headTextsRow]; rfl) (by simp [Rows.headTextsRow]; rfl)
    refine (law01_HeadTexts.vc0 (Good W) (encH h) W ?_).mono fun e w' ⟨r, he, hr, hk⟩ => ⟨by rw [he, hr], hk.below⟩
    unfold law01_HeadTexts.F
    refine (Sep.start (fun _ => False) W).new fun w1 hb h1 k1 => ?_
    refine awake_cal (g1.ext h1.kept) (g2.ext h1.kept) fun w2 k2 => ?_
    rw [pif_not, pif_true]
    have h2 := h1.ext k2
    refine h2.ldN 0 rfl (sub13 lh) (len13 lh) (text_cal (g1.ext h2.kept) (g2.ext h2.kept) lh fun w3 k3 => ?_)
    have h3 := h2.ext k3
    refine parse_cal (g1.ext h3.kept) (g2.ext h3.kept) fun w4 k4 => ?_
    rw [readH_text lh]
    have h4 := h3.ext k4
    refine h4.new fun w5 gb h5 k5 => ?_
    refine h5.stN 0 rfl (by decide) (len13 lh) (encH_one _) (lay_all13 rfl (len13 lh)) fun w6 h6 k6 => ?_
    refine h6.ldN 1 rfl (sub13 lh) (len13 lh) (text2_cal lh fun w7 k7 => ?_)
    have h7 := h6.ext k7
    have e1 : ((strOf (textL h)).toList == (strOf (textL h)).toList) = true := beq_self_eq_true _
    rw [e1, pif_true]
    refine h7.ldN 0 rfl (sub13 lh) (len13 lh) (h7.ldN 1 rfl (sub13 lh) (len13 lh) (eqlH lh lh ?_))
    have e2 : (h == h) = true := beq_self_eq_true _
    rw [e2, pif_true]
    exact ⟨rfl, h7.kept⟩
end Go.Proofs.YtchhffabpgebmaaDoor
