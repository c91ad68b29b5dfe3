/-
  HoldTwo: the walk: two loops, the hold's floor and top beside it.
-/
import Derived.Test.YthheldpjcndelaaHoldLaws
namespace Go.Proofs.Ythheldpjcndelaa
open Go.RowKit
set_option linter.unusedVariables false
set_option linter.unusedSimpArgs false

section
variable {W : World} {a : Option Addr} {n c : Nat} {f : Nat → HAct} {ep : Int} {b : Nat}

theorem two_in {X1 : Option Addr → Nat → Nat → Int → Option Addr → Int → Int → Int → PT} (sl : Sl W a n 6 (fun i => (f i).enc)) {i : Nat} (hi : i < n) (hi80 : i < 80) {h : Hd} (hg : h.Good) :
    ∀ (m : Nat) (k : Int) (w : World), k + m = i → -1 ≤ k → IsB w b h.enc → Ext W w → (∀ w', IsB w' b h.enc → Ext W w' → X1 a n c ep (some ⟨b, 0, none⟩) h.fe h.te ((i + 1 : Nat) : Int) w') →
    law18_HoldTwo.l47 Z0 (Good W) X1 (m + 1) a n c ep (some ⟨b, 0, none⟩) h.fe h.te i k w
  | 0, k, w, hk, hk0, hb, ke, hX => by
    unfold law18_HoldTwo.l47 law18_HoldTwo.s75
    rw [pif_dec, if_neg (by omega)]
    unfold law18_HoldTwo.s30
    rw [wrap_nat1 (by omega)]
    exact hX w hb ke
  | m + 1, k, w, hk, hk0, hb, ke, hX => by
    unfold law18_HoldTwo.l47 law18_HoldTwo.s75
    rw [pif_dec, if_pos (by omega)]
    have go : ∀ (e : Int), law18_HoldTwo.s67 Z0 (Good W) X1 (law18_HoldTwo.l47 Z0 (Good W) X1 (m + 1)) a n c ep (some ⟨b, 0, none⟩) h.fe h.te i k e w := fun e => by
      unfold law18_HoldTwo.s67
      refine hold_Hold_Count.cal (count_F hb fun w1 h1 k1 => ?_)
      obtain ⟨c1, c2, c3⟩ := Hd.count_of e hg
      have next : law18_HoldTwo.s57 Z0 (Good W) X1 (law18_HoldTwo.l47 Z0 (Good W) X1 (m + 1)) a n c ep (some ⟨b, 0, none⟩) h.fe h.te i k w1 := by
        unfold law18_HoldTwo.s57
        rw [wrap_in (by omega) (by omega)]
        exact two_in sl hi hi80 hg m (k + 1) w1 (by omega) (by omega) h1 (ke.trans k1) hX
      simp only [pif_dec, pif_bne]
      rw [if_neg (by omega), if_neg (by omega)]
      split
      · split
        · exact next
        · split
          · exact next
          · exfalso; have := c3 ‹_›; omega
      · exact next
    unfold law18_HoldTwo.s71
    rw [pif_dec]
    split
    · refine ixS_Sl sl (by omega) (by omega) fun ad hc hl => ?_
      exact ldI_at (hc w ke) (by rfl) (go _)
    · exact go _

theorem two_out (sl : Sl W a n 6 (fun i => (f i).enc)) (ok : ∀ i, i < n → (f i).Ok) (hbW : W.heap.size ≤ b) :
    ∀ (m : Nat) (i : Nat) (h : Hd) (w : World), i + m = 80 → h.Good → IsB w b h.enc → Ext W w → law18_HoldTwo.l21 Z0 (Good W) (m + 1) a n c ep (some ⟨b, 0, none⟩) h.fe h.te i w
  | 0, i, h, w, hm, hg, hb, ke => by
    unfold law18_HoldTwo.l21 law18_HoldTwo.s85
    rw [pif_dec]
    split
    · rw [pif_dec, if_neg (by omega)]; exact ⟨rfl, ke⟩
    · exact ⟨rfl, ke⟩
  | m + 1, i, h, w, hm, hg, hb, ke => by
    unfold law18_HoldTwo.l21 law18_HoldTwo.s85
    rw [pif_dec]
    split
    · rename_i hi
      have hi : i < n := by omega
      rw [pif_dec, if_pos (by omega)]
      unfold law18_HoldTwo.s81
      refine ixS_Sl sl (by omega) (by omega) fun ad hc hl => ?_
      refine ldN_at (hc w ke) hl ?_
      rw [Int.toNat_natCast]
      refine law18_does.cal (does_F (ok i hi) hb fun w1 h1 k1 => ?_)
      have hs := Hd.act_step (f i) hg
      have hg1 := Hd.act_good (x := f i) hg
      refine hold_Hold_Floor.cal (floor_F h1 ?_)
      rw [pif_dec, if_neg (by have := hs.fe; omega)]
      refine hold_Hold_Top.cal (top_F h1 ?_)
      rw [pif_dec, if_neg (by have := hs.te; omega)]
      refine hold_Hold_Top.cal (top_F h1 ?_)
      refine hold_Hold_Floor.cal (floor_F h1 ?_)
      rw [pif_dec, if_neg (by have := hg1.ft; omega)]
      refine hold_Hold_Floor.cal (floor_F h1 ?_)
      refine hold_Hold_Top.cal (top_F h1 ?_)
      refine exK_of (i + 1 + 1) (two_in sl hi (by omega) hg1 (i + 1) (-1) w1 (by omega) (by omega) h1 (ke.own hbW k1) fun w2 h2 k2 => ?_)
      exact two_out sl ok hbW m (i + 1) _ w2 (by omega) hg1 h2 k2
    · exact ⟨rfl, ke⟩
end

theorem HoldTwo_walk : Walked 5 [22, 3] := by
  intro vs W hl ha
  match vs, hl with
  | [v, u], _ =>
    obtain ⟨a, n, c, f, rfl, hn, sl, ok⟩ := acts_of Try.underlying22 (ha 0 22 v rfl rfl)
    obtain ⟨ep, rfl, _⟩ := (ha 1 3 u rfl rfl).int Try.underlying3
    refine (law18_HoldTwo.vc0 (Good W) a n c ep W ?_).mono fun e w' ⟨r, he, hr, hk⟩ => ⟨by rw [he, hr], hk.below⟩
    unfold law18_HoldTwo.F law18_HoldTwo.s94
    refine law18_awake.cal (awake_F fun w1 k1 => ?_)
    show cal _ _ _ _ _ w1
    refine hold_New.cal (new_F fun w2 h2 k2 => ?_)
    unfold law18_HoldTwo.s91
    exact exK_of (80 + 1) (two_out (h := Hd.zero 1) sl ok k1.size 80 0 w2 rfl (Hd.zero_good 1) h2 (k1.trans k2))
end Go.Proofs.Ythheldpjcndelaa
