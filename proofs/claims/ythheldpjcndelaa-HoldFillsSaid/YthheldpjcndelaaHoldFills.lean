/-
  HoldFills: the walk: items that come one behind the other fill an epoch.
-/
import Derived.Test.YthheldpjcndelaaHoldLaws
namespace Go.Proofs.Ythheldpjcndelaa
open Go.RowKit
set_option linter.unusedVariables false
set_option linter.unusedSimpArgs false

/-- The hold behind so many items. -/
def Hd.some (fl e of i : Int) : Hd := ⟨1, fl, 0, 0, e, i, if i = 0 then 0 else of, 0, 0⟩
section
variable {fl e of i : Int}
theorem item_zero (hf : fl = 0 ∨ fl = 1) (he : 2 ≤ e) {p o : Int} (h0 : 0 ≤ p) (ho : p < o) : (Hd.zero 1).item fl e p o = (Hd.some fl e of 0).item fl e p o := by
  unfold Hd.item Hd.lift Hd.reach
  simp only [Hd.settle_eq]
  unfold Hd.zero Hd.some
  rcases hf with rfl | rfl <;> grind
theorem item_some (hf : fl = 0 ∨ fl = 1) (he : 2 ≤ e) {p o : Int} (h0 : 0 ≤ p) (ho : p < o) : (Hd.some fl e of i).item fl e p o = (Hd.some fl e of i).itemIn e p o := by
  unfold Hd.item Hd.lift Hd.reach
  unfold Hd.some
  rcases hf with rfl | rfl <;> grind
theorem item_low {h : Hd} {p o : Int} (h1 : o ≤ p) : h.item fl e p o = (h, 0) := by
  unfold Hd.item
  grind
theorem itemIn_some (hf : fl = 0 ∨ fl = 1) (he : 2 ≤ e) {p o : Int} (hi : 0 ≤ i) (h0 : 0 ≤ p) (ho : p < o) :
    (i < p → (Hd.some fl e of i).itemIn e p o = (Hd.some fl e of i, 0)) ∧ (p = i → o = of → (Hd.some fl e of i).itemIn e p o = (Hd.some fl e of (i + 1), 1)) ∧ (p < i → o = of → (Hd.some fl e of i).itemIn e p o = (Hd.some fl e of i, 2)) := by
  unfold Hd.itemIn
  simp only [Hd.part_iff]
  unfold Hd.bump Hd.cnt Hd.off Hd.some
  grind
theorem some_full (hf : fl = 0 ∨ fl = 1) (he : 2 ≤ e) (hi : 0 ≤ i) (ho : i < of) : (Hd.some fl e of i).full e = false := by
  unfold Hd.full Hd.cnt Hd.off Hd.some
  grind
theorem some_end (hf : fl = 0 ∨ fl = 1) (he : 2 ≤ e) (ho : 0 < of) : (Hd.some fl e of of).full e = true ∧ (Hd.some fl e of of).cnt e = of ∧ (Hd.some fl e of of).off e = of ∧ ((Hd.some fl e of of).lead 0 e e).2 = true ∧ ((Hd.some fl e of of).lead 0 e e).1.use = e := by
  refine ⟨?_, ?_, ?_, ?_, ?_⟩
  · unfold Hd.full Hd.cnt Hd.off Hd.some; grind
  · unfold Hd.cnt Hd.some; grind
  · unfold Hd.off Hd.some; grind
  · unfold Hd.lead Hd.lift Hd.leadIn; simp only [Hd.settle_eq]; unfold Hd.turn Hd.full Hd.cnt Hd.off Hd.some; grind
  · unfold Hd.lead Hd.lift Hd.leadIn; simp only [Hd.settle_eq]; unfold Hd.turn Hd.full Hd.cnt Hd.off Hd.some; grind
theorem zero_full : (Hd.zero 1).full e = false := by
  unfold Hd.full Hd.off Hd.zero
  grind
end

section
variable {W : World} {fl e of odd : Int} {b : Nat}
theorem fills_loop (hbW : W.heap.size ≤ b) (hf : fl = 0 ∨ fl = 1) (he : 2 ≤ e) (ho0 : 0 < of) (ho1 : of ≤ 64) (hodd : odd ≤ 9223372036854775807) :
    ∀ (m : Nat) (i : Nat) (h : Hd) (w : World), (i : Int) + m = of → (h = Hd.some fl e of i ∨ i = 0 ∧ h = Hd.zero 1) → IsB w b h.enc → Ext W w → law18_HoldFills.l22 Z0 (Good W) (m + 1) of e fl odd (some ⟨b, 0, none⟩) i w
  | 0, i, h, w, hm, hh, hb, ke => by
    unfold law18_HoldFills.l22 law18_HoldFills.s48
    rw [pif_dec, if_neg (by omega)]
    have hi : (i : Int) = of := by omega
    have hh : h = Hd.some fl e of of := by rcases hh with h | ⟨h, _⟩; rw [h, hi]; omega
    subst hh
    obtain ⟨e1, e2, e3, e4, e5⟩ := some_end (fl := fl) (e := e) (of := of) hf he ho0
    unfold law18_HoldFills.s12
    refine hold_Hold_Count.cal (count_F hb fun w1 h1 k1 => ?_)
    refine hold_Hold_Full.cal (full_F h1 fun w2 h2 k2 => ?_)
    rw [e1, e2, e3, pif_true, pif_beq, if_pos rfl, pif_beq, if_pos rfl]
    refine hold_Hold_Lead.cal (lead_F h2 fun w3 h3 k3 => ?_)
    rw [e4, pif_true]
    refine hold_Hold_Use.cal (use_F h3 ?_)
    rw [e5]
    exact ⟨by simp, (ke.trans (k1.trans k2)).own hbW k3⟩
  | m + 1, i, h, w, hm, hh, hb, ke => by
    unfold law18_HoldFills.l22 law18_HoldFills.s48
    rw [pif_dec, if_pos (by omega)]
    unfold law18_HoldFills.s44
    refine hold_Hold_Full.cal (full_F hb fun w1 h1 k1 => ?_)
    have hfull : h.full e = false := by
      rcases hh with rfl | ⟨_, rfl⟩
      · exact some_full hf he (by omega) (by omega)
      · exact zero_full
    rw [hfull, pif_false, pif_dec]
    have ke1 := ke.trans k1
    -- the last two items
    have rest : ∀ {h' : Hd} {w' : World}, (h' = Hd.some fl e of i ∨ i = 0 ∧ h' = Hd.zero 1) → IsB w' b h'.enc → Ext W w' → cal Try.prog Z0 15 [.pointer (some ⟨b, 0, none⟩), .int .i64 fl, .int .i64 e, .int .i64 i, .int .i64 of] (isI .i64 fun v65 => (pif (v65 != 1) (law18_HoldFills.s40 Z0 (Good W) (law18_HoldFills.l22 Z0 (Good W) (m + 1)) of e fl odd (some ⟨b, 0, none⟩) i true)
        (cal Try.prog Z0 15 [.pointer (some ⟨b, 0, none⟩), .int .i64 fl, .int .i64 e, .int .i64 i, .int .i64 of] (isI .i64 fun v66 => (law18_HoldFills.s40 Z0 (Good W) (law18_HoldFills.l22 Z0 (Good W) (m + 1)) of e fl odd (some ⟨b, 0, none⟩) i (v66 != 2)))))) w' := fun {h' w'} hh' hb' ke' => by
      have hit : h'.item fl e i of = (Hd.some fl e of (i + 1), 1) := by
        obtain ⟨_, t, _⟩ := itemIn_some (fl := fl) (e := e) (of := of) (i := i) (p := i) (o := of) hf he (by omega) (by omega) (by omega)
        rcases hh' with rfl | ⟨h0, rfl⟩
        · rw [item_some hf he (by omega) (by omega), t rfl rfl]
        · rw [item_zero (of := of) hf he (by omega) (by omega)]
          subst h0
          rw [show ((0 : Nat) : Int) = 0 from rfl] at t ⊢
          rw [item_some hf he (by omega) (by omega), t rfl rfl]
      refine hold_Hold_Item.cal (item_F (by omega) hb' ?_)
      rw [hit]
      intro w2 h2 k2
      rw [pif_bne, if_pos rfl]
      have hit2 : (Hd.some fl e of (i + 1)).item fl e i of = (Hd.some fl e of (i + 1), 2) := by
        obtain ⟨_, _, t⟩ := itemIn_some (fl := fl) (e := e) (of := of) (i := i + 1) (p := i) (o := of) hf he (by omega) (by omega) (by omega)
        rw [item_some hf he (by omega) (by omega), t (by omega) rfl]
      refine hold_Hold_Item.cal (item_F (by omega) h2 ?_)
      rw [hit2]
      intro w3 h3 k3
      unfold law18_HoldFills.s40 law18_HoldFills.s31
      rw [pif_bne, if_pos rfl, wrap_nat1 (by omega)]
      exact fills_loop hbW hf he ho0 ho1 hodd m (i + 1) _ w3 (by omega) (.inl rfl) h3 ((ke'.own hbW k2).own hbW k3)
    split
    · rename_i hod
      refine hold_Hold_Item.cal (item_F (by split <;> omega) h1 ?_)
      have hz : ∃ h', h.item fl e odd (if odd > of then odd else of) = (h', 0) ∧ (h' = Hd.some fl e of i ∨ i = 0 ∧ h' = Hd.zero 1) := by
        by_cases hoo : of ≤ odd
        · exact ⟨h, item_low (by split <;> omega), hh⟩
        · rw [if_neg (by omega)]
          refine ⟨Hd.some fl e of i, ?_, .inl rfl⟩
          obtain ⟨t, _⟩ := itemIn_some (fl := fl) (e := e) (of := of) (i := i) (p := odd) (o := of) hf he (by omega) (by omega) (by omega)
          rcases hh with rfl | ⟨h0, rfl⟩
          · rw [item_some hf he (by omega) (by omega), t (by omega)]
          · rw [item_zero (of := of) hf he (by omega) (by omega)]
            subst h0
            rw [show ((0 : Nat) : Int) = 0 from rfl] at t hod ⊢
            rw [item_some hf he (by omega) (by omega), t (by omega)]
      obtain ⟨h', e1, e2⟩ := hz
      rw [e1]
      intro w2 h2 k2
      rw [pif_bne, if_pos rfl]
      exact rest e2 h2 (ke1.own hbW k2)
    · exact rest hh h1 ke1
end

theorem HoldFills_walk : Walked 4 [3, 3, 3, 3] := by
  intro vs W hl ha
  match vs, hl with
  | [v0, v1, v2, v3], _ =>
    obtain ⟨of, rfl, _⟩ := (ha 0 3 v0 rfl rfl).int Try.underlying3
    obtain ⟨e, rfl, _⟩ := (ha 1 3 v1 rfl rfl).int Try.underlying3
    obtain ⟨fl, rfl, _⟩ := (ha 2 3 v2 rfl rfl).int Try.underlying3
    obtain ⟨odd, rfl, ho⟩ := (ha 3 3 v3 rfl rfl).int Try.underlying3
    simp [Lit.wf] at ho
    have ho' : odd ≤ 9223372036854775807 := ho.2
    refine (law18_HoldFills.vc0 (Good W) of e fl odd W ?_).mono fun e w' ⟨r, he, hr, hk⟩ => ⟨by rw [he, hr], hk.below⟩
    unfold law18_HoldFills.F law18_HoldFills.s57
    refine law18_awake.cal (awake_F fun w1 k1 => ?_)
    show cal _ _ _ _ _ w1
    refine hold_New.cal (new_F fun w2 h2 k2 => ?_)
    obtain ⟨a0, a1⟩ := and_mask of 63 (by decide) (by decide)
    obtain ⟨b0, b1⟩ := and_mask e 1023 (by decide) (by decide)
    obtain ⟨c0, c1⟩ := and_mask fl 1 (by decide) (by decide)
    generalize IntKind.wrap .i64 ((BitVec.ofInt (IntKind.bits .i64) of &&& BitVec.ofInt (IntKind.bits .i64) 63).toNat : Nat) = x at a0 a1 ⊢
    generalize IntKind.wrap .i64 ((BitVec.ofInt (IntKind.bits .i64) e &&& BitVec.ofInt (IntKind.bits .i64) 1023).toNat : Nat) = y at b0 b1 ⊢
    generalize IntKind.wrap .i64 ((BitVec.ofInt (IntKind.bits .i64) fl &&& BitVec.ofInt (IntKind.bits .i64) 1).toNat : Nat) = z at c0 c1 ⊢
    rw [wrap_in (by omega) (by omega), wrap_in (by omega) (by omega)]
    unfold law18_HoldFills.s54
    exact exK_of ((1 + x).toNat + 1) (fills_loop k1.size (by omega) (by omega) (by omega) (by omega) ho' (1 + x).toNat 0 (Hd.zero 1) w2 (by omega) (.inr ⟨rfl, rfl⟩) h2 (k1.trans k2))
end Go.Proofs.Ythheldpjcndelaa
