/-
  SenseApplies: the walk of the law. No condition.
-/
import Derived.Test.YtllgjjldnnmjkaaDoorArgE
import Derived.Test.YtllgjjldnnmjkaaDoorSay2
import Derived.Test.YtllgjjldnnmjkaaDoorCodeLaw2
set_option linter.unusedVariables false
set_option linter.unusedSimpArgs false
set_option maxRecDepth 100000
namespace Go.Proofs.YtllgjjldnnmjkaaDoor
open Go.RowKit
theorem hEn_at {w : World} {S : PT} {K : List Value → PT} {x : En} {p : Nat} (hs : ∀ w', S w' → IsB w' p x.enc) (hk : K x.enc w) : hN S 12 ⟨p, 0, none⟩ K w :=
  hN_of rfl (fun w' hw' => cellsAt_B (hs w' hw') rfl) hk
theorem sap_F {Z : List PanicEntry → PT} {Q : Bool → PT} {w : World} {h : List UInt8} {x : En} (hv : Places w) (hl : h.length = 13) (hx : x.Ok) (hq : ∀ w', Ext w w' → Q true w') : law07_SenseApplies.F Z Q x.enc (encH h) w := by
  unfold law07_SenseApplies.F
  refine (Sep.start (fun _ => False) w).new fun w1 xb h1 k1 => ?_
  refine h1.new fun w2 hb h2 k2 => ?_
  refine awake_cal (hv.ext h2.kept) fun w3 k3 => ?_
  have h3 := h2.ext k3
  rw [pif_not, pif_true]
  have all : ∀ {w'}, Sep (fun _ => False) w w' [fB hb (encH h), fB xb x.enc] → IsB w' xb x.enc ∧ IsB w' hb (encH h) := fun g => ⟨g.at (n := 1) rfl, g.at (n := 0) rfl⟩
  refine h3.drawn (fun w' => IsB w' xb x.enc ∧ IsB w' hb (encH h)) (all h3.drew) fun h4 => ?_
  have A := fun (w' : World) (h : IsB w' xb x.enc ∧ IsB w' hb (encH h)) => h.1
  have B := fun (w' : World) (h : IsB w' xb x.enc ∧ IsB w' hb (encH h)) => h.2
  refine hEn_at A (hN_hd hl B (hEn_at A (hN_hd hl B ?_)))
  refine applies_cal (hv.ext h4.kept) hl hx fun w5 k5 => ?_
  have h5 := h4.ext k5
  refine sAnd_of (all h5) ?_
  refine applies2_cal hl hx fun w6 k6 => ?_
  have h6 := h5.ext k6
  refine sAnd_of (all h6) ?_
  rw [beq_self_eq_true]
  exact hq w6 h6.kept
theorem SenseApplies_walk : WalkedL (Rows.senseAppliesRow.laid) 5 [35, 37] := by
  intro vs W hl ha hL
  match vs, hl with
  | [v0, v1], _ =>
    obtain ⟨x, rfl, hx⟩ := en_arg (ha 0 _ v0 rfl rfl)
    obtain ⟨h, rfl, lh⟩ := head_of (ha 1 _ v1 rfl rfl)
    have g1 := places_of hL (by simp [Rows.senseAppliesRow]; rfl)
    refine (law07_SenseApplies.vc0 (Good W) x.enc (encH h) W (sap_F g1 lh hx fun w' k => ⟨rfl, k⟩)).mono fun e w' ⟨r, he, hr, hk⟩ => ⟨by rw [he, hr], hk.below⟩
end Go.Proofs.YtllgjjldnnmjkaaDoor
