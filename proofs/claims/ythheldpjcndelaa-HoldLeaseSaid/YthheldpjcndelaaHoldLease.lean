/-
  HoldLease: the walk: what is in use was said by a lead that is among the acts; the inner loop finds it.
-/
import Derived.Test.YthheldpjcndelaaHoldLaws
namespace Go.Proofs.Ythheldpjcndelaa
open Go.RowKit
set_option linter.unusedVariables false
set_option linter.unusedSimpArgs false

/-- It is a lead among the first acts. -/
def Said (f : Nat → HAct) (i : Nat) (h : Hd) : Prop := 0 < h.use → ∃ j, j < i ∧ (f j).lead = true ∧ (f j).epoch = h.use ∧ (f j).sent = h.said ∧ 0 ≤ (f j).sent
theorem said_step {f : Nat → HAct} {i : Nat} {h : Hd} (hg : h.Good) (hs : Said f i h) : Said f (i + 1) (h.act (f i)).1 := fun h0 => by
  rcases (Hd.act_step (f i) hg).said h0 with ⟨e1, e2⟩ | ⟨e1, e2, e3, e4⟩
  · obtain ⟨j, g1, g2, g3, g4, g5⟩ := hs (by omega)
    exact ⟨j, by omega, g2, by omega, by omega, g5⟩
  · exact ⟨i, by omega, e1, e2, e3, e4⟩

section
variable {W : World} {a : Option Addr} {n c : Nat} {f : Nat → HAct} {now lease : Int} {b : Nat}

theorem lease_in {X1 : Option Addr → Nat → Nat → Int → Int → Option Addr → Int → PT} (sl : Sl W a n 6 (fun i => (f i).enc)) (hn0 : 0 ≤ now) (hn1 : now ≤ 1099511627776) (ok : ∀ i, i < n → (f i).Ok) {i : Nat} (hi : i < n) (hi80 : i < 80) {h : Hd} {j : Nat} (hj : j < i + 1) (g1 : (f j).lead = true) (g2 : (f j).epoch = h.use) (g3 : 0 ≤ (f j).sent) (g4 : now - (f j).sent < lease) :
    ∀ (m k : Nat) (found : Bool) (w : World), k + m = i + 1 → (found = true ∨ k ≤ j) → IsB w b h.enc → Ext W w → (∀ w', IsB w' b h.enc → Ext W w' → X1 a n c now lease (some ⟨b, 0, none⟩) ((i + 1 : Nat) : Int) w') →
    law18_HoldLease.l54 Z0 (Good W) X1 (m + 1) a n c now lease (some ⟨b, 0, none⟩) i found k w
  | 0, k, found, w, hk, hf, hb, ke, hX => by
    unfold law18_HoldLease.l54 law18_HoldLease.s65
    rw [pif_dec, if_neg (by omega)]
    unfold law18_HoldLease.s43 law18_HoldLease.s29
    have hf : found = true := by rcases hf with h | h; exact h; omega
    subst hf
    rw [wrap_nat1 (by omega)]
    exact hX w hb ke
  | m + 1, k, found, w, hk, hf, hb, ke, hX => by
    unfold law18_HoldLease.l54 law18_HoldLease.s65
    rw [pif_dec, if_pos (by omega)]
    have next : ∀ (found' : Bool) (w' : World), (found' = true ∨ k + 1 ≤ j) → IsB w' b h.enc → Ext W w' → law18_HoldLease.s61 Z0 (Good W) X1 (law18_HoldLease.l54 Z0 (Good W) X1 (m + 1)) a n c now lease (some ⟨b, 0, none⟩) i found' k w' := fun found' w' hf' hb' ke' => by
      unfold law18_HoldLease.s61
      rw [wrap_nat1 (by omega)]
      exact lease_in sl hn0 hn1 ok hi hi80 hj g1 g2 g3 g4 m (k + 1) found' w' (by omega) hf' hb' ke' hX
    refine drawn_of (fun w' => IsB w' b h.enc ∧ Ext W w') ⟨hb.drew, ke.drew⟩ ?_
    have hb := hb.drew
    have ke := ke.drew
    generalize w.drew = w at hb ke ⊢
    rw [pif_bool]
    split
    · exact next true w (.inl rfl) hb ke
    · rename_i hff
      have hkj : k ≤ j := by rcases hf with h | h; exact absurd h hff; exact h
      -- the cells of act k
      have at_ : ∀ {K : Addr → PT} {w : World}, (∀ ad, (∀ w', Ext W w' → cellsAt w' ad (f k).enc) → K ad w) → ixS a n k 6 K w := fun {K w} hK => ixS_Sl (W := W) sl (by omega) (by omega) fun ad hc hl => by
        rw [Int.toNat_natCast] at hc; exact hK ad hc
      have other : ∀ w', IsB w' b h.enc → Ext W w' → k ≠ j → law18_HoldLease.s61 Z0 (Good W) X1 (law18_HoldLease.l54 Z0 (Good W) X1 (m + 1)) a n c now lease (some ⟨b, 0, none⟩) i false k w' := fun w' hb' ke' hne => next false w' (.inr (by omega)) hb' ke'
      refine at_ fun ad hc => hB_of (n := (f k).lead) (fun w' hw' => hc w' hw'.2 0 _ rfl) ?_
      rw [pif_bool]
      split
      · refine at_ fun ad hc => hI_of (n := (f k).epoch) (fun w' hw' => hc w' hw'.2 2 _ rfl) ?_
        refine hold_Hold_Use.cal (use_F hb ?_)
        refine sAnd_of ⟨hb, ke⟩ ?_
        rw [pif_beq]
        split
        · refine at_ fun ad hc => hI_of (n := (f k).sent) (fun w' hw' => hc w' hw'.2 5 _ rfl) ?_
          rw [pif_dec]
          split
          · rename_i hs0
            refine at_ fun ad hc => hI_of (n := (f k).sent) (fun w' hw' => hc w' hw'.2 5 _ rfl) ?_
            rw [pif_dec]
            split
            · exact next true w (.inl rfl) hb ke
            · refine at_ fun ad hc => hI_of (n := (f k).sent) (fun w' hw' => hc w' hw'.2 5 _ rfl) ?_
              have ho := (ok k (by omega)).sent.2
              rw [wrap_in (by omega) (by omega)]
              refine next _ w ?_ hb ke
              by_cases hkj : k = j
              · subst hkj; exact .inl (decide_eq_true g4)
              · exact .inr (by omega)
          · exact other w hb ke (by rintro rfl; omega)
        · exact other w hb ke (by rintro rfl; omega)
      · exact other w hb ke (by rintro rfl; simp_all)

theorem live_lt {h : Hd} (hg : h.Good) (hn0 : 0 ≤ now) (hn1 : now ≤ 1099511627776) (hs : h.said ≤ 9223372036854775807) (hl : h.live now lease = true) : 0 < h.use ∧ now - h.said < lease := by
  unfold Hd.live at hl
  split at hl
  · rename_i h0
    have e1 : (if 1099511627776 < now then 1099511627776 else now) = now := by rw [if_neg (by omega)]
    have e2 : (if now > 0 then now else 0) = now := by split <;> omega
    rw [e1, e2, wrap_in (by have := hg.said; omega) (by have := hg.said; omega)] at hl
    exact ⟨h0, of_decide_eq_true hl⟩
  · cases hl

theorem lease_out (sl : Sl W a n 6 (fun i => (f i).enc)) (ok : ∀ i, i < n → (f i).Ok) (hbW : W.heap.size ≤ b) (hn0 : 0 ≤ now) (hn1 : now ≤ 1099511627776) :
    ∀ (m : Nat) (i : Nat) (h : Hd) (w : World), i + m = 80 → h.Good → Said f i h → IsB w b h.enc → Ext W w → law18_HoldLease.l20 Z0 (Good W) (m + 1) a n c now lease (some ⟨b, 0, none⟩) i w
  | 0, i, h, w, hm, hg, hs, hb, ke => by
    unfold law18_HoldLease.l20 law18_HoldLease.s78
    rw [pif_dec]
    split
    · rw [pif_dec, if_neg (by omega)]; exact ⟨rfl, ke⟩
    · exact ⟨rfl, ke⟩
  | m + 1, i, h, w, hm, hg, hs, hb, ke => by
    unfold law18_HoldLease.l20 law18_HoldLease.s78
    rw [pif_dec]
    split
    · rename_i hi
      have hi : i < n := by omega
      rw [pif_dec, if_pos (by omega)]
      unfold law18_HoldLease.s74
      refine ixS_Sl sl (by omega) (by omega) fun ad hc hl => ?_
      refine ldN_at (hc w ke) hl ?_
      rw [Int.toNat_natCast] at hc hl ⊢
      refine law18_does.cal (does_F (ok i hi) hb fun w1 h1 k1 => ?_)
      have hg1 := Hd.act_good (x := f i) hg
      have hs1 := said_step hg hs
      have ke1 := ke.own hbW k1
      generalize (h.act (f i)).1 = g at hs1 hg1 h1
      refine hold_Hold_Live.cal (live_F h1 ?_)
      rw [pif_not, pif_bool]
      split
      · rename_i hl
        unfold law18_HoldLease.s71
        have h0 : 0 < g.use := by unfold Hd.live at hl; split at hl; assumption; cases hl
        obtain ⟨j, j1, j2, j3, j4, j5⟩ := hs1 h0
        have ho := (ok j (by omega)).sent.2
        obtain ⟨_, hlt⟩ := live_lt hg1 hn0 hn1 (by omega) hl
        refine exK_of (i + 1 + 1) (lease_in (j := j) sl hn0 hn1 ok hi (by omega) j1 j2 j3 j5 (by omega) (i + 1) 0 false w1 (by omega) (.inr (Nat.zero_le _)) h1 ke1 fun w2 h2 k2 => ?_)
        exact lease_out sl ok hbW hn0 hn1 m (i + 1) g w2 (by omega) hg1 hs1 h2 k2
      · unfold law18_HoldLease.s29
        rw [wrap_nat1 (by omega)]
        exact lease_out sl ok hbW hn0 hn1 m (i + 1) g w1 (by omega) hg1 hs1 h1 ke1
    · exact ⟨rfl, ke⟩
end

theorem HoldLease_walk : Walked 3 [22, 3, 3] := by
  intro vs W hl ha
  match vs, hl with
  | [v, u1, u2], _ =>
    obtain ⟨a, n, c, f, rfl, hn, sl, ok⟩ := acts_of Try.underlying22 (ha 0 22 v rfl rfl)
    obtain ⟨now, rfl, _⟩ := (ha 1 3 u1 rfl rfl).int Try.underlying3
    obtain ⟨lease, rfl, _⟩ := (ha 2 3 u2 rfl rfl).int Try.underlying3
    refine (law18_HoldLease.vc0 (Good W) a n c now lease W ?_).mono fun e w' ⟨r, he, hr, hk⟩ => ⟨by rw [he, hr], hk.below⟩
    unfold law18_HoldLease.F law18_HoldLease.s87
    refine law18_awake.cal (awake_F fun w1 k1 => ?_)
    show pif (decide (now < 0)) _ _ w1
    rw [pif_dec]
    split
    · exact ⟨rfl, k1⟩
    rw [pif_dec]
    split
    · exact ⟨rfl, k1⟩
    refine hold_New.cal (new_F fun w2 h2 k2 => ?_)
    unfold law18_HoldLease.s84
    exact exK_of (80 + 1) (lease_out (h := Hd.zero 1) sl ok k1.size (by omega) (by omega) 80 0 w2 rfl (Hd.zero_good 1) (fun h => absurd h (by decide)) h2 (k1.trans k2))
end Go.Proofs.Ythheldpjcndelaa
