/-
  HoldNil: the walk. A hold that is not there holds nothing: its methods look at the pointer first.
-/
import Derived.Test.YthheldpjcndelaaActs
namespace Go.Proofs.Ythheldpjcndelaa
open Go.RowKit
set_option linter.unusedVariables false
set_option linter.unusedSimpArgs false

theorem does_nil {Z : List PanicEntry → PT} {Q : Int → PT} {w : World} {x : HAct} (hq : ∀ w', Ext w w' → Q 0 w') : law18_does.F Z Q none x.enc w := by
  unfold law18_does.F
  refine newC_B fun w1 h1 k1 s1 => ?_
  simp only [add_mk, Nat.zero_add]
  refine ldB_B h1 rfl ?_
  rw [pif_not, pif_bool]
  split
  · refine ldI_B h1 rfl (ldI_B h1 rfl (ldI_B h1 rfl ?_))
    refine hold_Hold_Lead.cal ?_
    exact hq w1 k1
  · refine ldI_B h1 rfl (ldI_B h1 rfl (ldI_B h1 rfl (ldI_B h1 rfl ?_)))
    refine hold_Hold_Item.cal ?_
    exact hq w1 k1

theorem HoldNil_walk : Walked 8 [28] := by
  intro vs W hl ha
  match vs, hl with
  | [v], _ =>
    obtain ⟨cs, rfl, fuel, ht⟩ := (ha 0 28 v rfl rfl).agg Try.underlying28
    obtain ⟨x, rfl, hx⟩ := act_of ht
    refine (law18_HoldNil.vc0 (fun r w' => r = true ∧ Ext W w') x.enc W ?_).mono fun e w' ⟨r, he, hr, hk⟩ => ⟨by rw [he, hr], hk.below⟩
    unfold law18_HoldNil.F
    refine newC_B fun w1 h1 k1 s1 => ?_
    refine law18_awake.cal (awake_F fun w2 k2 => ?_)
    simp only [add_mk, Nat.zero_add]
    have h2 := h1.ext k2
    show ldI .i64 _ _ w2
    refine ldI_B h2 rfl ?_
    refine hold_Hold_Count.cal (hold_Hold_part.cal ?_)
    show ldN _ _ _ w2
    refine ldN_B h2 (vs := x.enc) rfl rfl ?_
    refine law18_does.cal (does_nil fun w3 k3 => ?_)
    show cal _ _ _ _ _ w3
    have h3 := h2.ext k3
    refine hold_Hold_Inc.cal ?_
    show cal _ _ _ _ _ w3
    refine hold_Hold_Floor.cal ?_
    show cal _ _ _ _ _ w3
    refine hold_Hold_Top.cal ?_
    show cal _ _ _ _ _ w3
    refine hold_Hold_Use.cal ?_
    show ldI .i64 _ _ w3
    refine ldI_B h3 rfl ?_
    refine hold_Hold_Full.cal (hold_Hold_Count.cal (hold_Hold_part.cal ?_))
    show ldI .i64 _ _ w3
    refine ldI_B h3 rfl (ldI_B h3 rfl ?_)
    refine hold_Hold_Live.cal (hold_Hold_Use.cal ?_)
    exact ⟨rfl, k1.trans (k2.trans k3)⟩
end Go.Proofs.Ythheldpjcndelaa
