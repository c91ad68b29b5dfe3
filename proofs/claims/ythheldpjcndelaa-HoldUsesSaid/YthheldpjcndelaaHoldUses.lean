/-
  HoldUses: the walk: one loop, what is in use ahead of an act and behind it.
-/
import Derived.Test.YthheldpjcndelaaHoldLaws
namespace Go.Proofs.Ythheldpjcndelaa
open Go.RowKit
set_option linter.unusedVariables false
set_option linter.unusedSimpArgs false

section
variable {W : World} {a : Option Addr} {n c : Nat} {f : Nat → HAct} {b : Nat}

theorem uses_out (sl : Sl W a n 6 (fun i => (f i).enc)) (ok : ∀ i, i < n → (f i).Ok) (hbW : W.heap.size ≤ b) :
    ∀ (m : Nat) (i : Nat) (h : Hd) (w : World), i + m = 80 → h.Good → IsB w b h.enc → Ext W w → law18_HoldUses.l19 Z0 (Good W) (m + 1) a n c (some ⟨b, 0, none⟩) i w
  | 0, i, h, w, hm, hg, hb, ke => by
    unfold law18_HoldUses.l19 law18_HoldUses.s53
    rw [pif_dec]
    split
    · rw [pif_dec, if_neg (by omega)]; exact ⟨rfl, ke⟩
    · exact ⟨rfl, ke⟩
  | m + 1, i, h, w, hm, hg, hb, ke => by
    unfold law18_HoldUses.l19 law18_HoldUses.s53
    rw [pif_dec]
    split
    · rename_i hi
      have hi : i < n := by omega
      rw [pif_dec, if_pos (by omega)]
      unfold law18_HoldUses.s49
      refine hold_Hold_Use.cal (use_F hb ?_)
      refine ixS_Sl sl (by omega) (by omega) fun ad hc hl => ?_
      refine ldN_at (hc w ke) hl ?_
      rw [Int.toNat_natCast] at hc hl ⊢
      refine law18_does.cal (does_F (ok i hi) hb fun w1 h1 k1 => ?_)
      have hs := Hd.act_step (f i) hg
      have hg1 := Hd.act_good (x := f i) hg
      have ke1 := ke.own hbW k1
      generalize (h.act (f i)).1 = g at hs hg1 h1
      refine hold_Hold_Use.cal (use_F h1 ?_)
      have next : ∀ w', IsB w' b g.enc → Ext W w' → law18_HoldUses.s28 Z0 (Good W) (law18_HoldUses.l19 Z0 (Good W) (m + 1)) a n c (some ⟨b, 0, none⟩) i w' := fun w' h' k' => by
        unfold law18_HoldUses.s28
        rw [wrap_nat1 (by omega)]
        exact uses_out sl ok hbW m (i + 1) g w' (by omega) hg1 h' k'
      have third : ∀ w', IsB w' b g.enc → Ext W w' → law18_HoldUses.s43 Z0 (Good W) (law18_HoldUses.l19 Z0 (Good W) (m + 1)) a n c (some ⟨b, 0, none⟩) i h.use g.use w' := fun w' h' k' => by
        unfold law18_HoldUses.s43
        rw [pif_beq]
        split
        · rename_i h0
          rw [pif_bne]
          split
          · exact next w' h' k'
          · rename_i h2
            obtain ⟨g1, g2⟩ := hs.gone h0 h2
            refine hold_Hold_Floor.cal (floor_F h' ?_)
            rw [pif_beq, if_neg g1]
            refine hold_Hold_Top.cal (top_F h' ?_)
            rw [pif_beq, if_neg g2]
            exact next w' h' k'
        · exact next w' h' k'
      have second : ∀ w', IsB w' b g.enc → Ext W w' → law18_HoldUses.s47 Z0 (Good W) (law18_HoldUses.l19 Z0 (Good W) (m + 1)) a n c (some ⟨b, 0, none⟩) i h.use g.use w' := fun w' h' k' => by
        unfold law18_HoldUses.s47
        rw [pif_bne]
        split
        · exact third w' h' k'
        · rename_i h2
          rw [pif_bne]
          split
          · exact third w' h' k'
          · rename_i h3
            obtain ⟨g1, g2, g3⟩ := hs.came h2 h3
            refine ixS_Sl sl (by omega) (by omega) fun ad hc hl => ?_
            rw [Int.toNat_natCast] at hc hl
            refine ldB_at (hc w' k') (by rfl) ?_
            rw [g1, pif_not, pif_true]
            refine ixS_Sl sl (by omega) (by omega) fun ad hc hl => ?_
            rw [Int.toNat_natCast] at hc hl
            refine ldI_at (hc w' k') (by rfl) ?_
            rw [pif_bne, if_pos g2, pif_dec, if_neg (show ¬ g.use < h.use by omega)]
            exact third w' h' k'
      rw [pif_bne]
      split
      · exact second w1 h1 ke1
      · rename_i h0
        refine hold_Hold_Full.cal (full_F h1 fun w2 h2 k2 => ?_)
        have hf : g.full g.use = true := by rcases hg1.use with h | h; exact absurd h h0; exact h.2
        rw [hf]
        exact second w2 h2 (ke1.trans k2)
    · exact ⟨rfl, ke⟩
end

theorem HoldUses_walk : Walked 6 [22] := by
  intro vs W hl ha
  match vs, hl with
  | [v], _ =>
    obtain ⟨a, n, c, f, rfl, hn, sl, ok⟩ := acts_of Try.underlying22 (ha 0 22 v rfl rfl)
    refine (law18_HoldUses.vc0 (Good W) a n c W ?_).mono fun e w' ⟨r, he, hr, hk⟩ => ⟨by rw [he, hr], hk.below⟩
    unfold law18_HoldUses.F law18_HoldUses.s62
    refine law18_awake.cal (awake_F fun w1 k1 => ?_)
    show cal _ _ _ _ _ w1
    refine hold_New.cal (new_F fun w2 h2 k2 => ?_)
    unfold law18_HoldUses.s59
    exact exK_of (80 + 1) (uses_out (h := Hd.zero 1) sl ok k1.size 80 0 w2 rfl (Hd.zero_good 1) h2 (k1.trans k2))
end Go.Proofs.Ythheldpjcndelaa
