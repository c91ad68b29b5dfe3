/-
  What the document's answer for a hold does with an item and a lead: its code does just this. No condition but that the list is short.
-/
import Derived.Test.YthheldpjcndelaaRef18
namespace Go.Proofs.Ythheldpjcndelaa
open Go.RowKit
set_option linter.unusedVariables false
set_option linter.unusedSimpArgs false

section
variable {Z : List PanicEntry → PT} {w : World} {E : Nat → Prop} {b : Nat} {r : Rf}
theorem Rf.forget_len (r : Rf) : r.forget.items.length ≤ r.items.length := List.length_filter_le _ _
theorem Rf.lift_len (r : Rf) (f : Int) : (r.lift f).items.length ≤ r.items.length := by
  unfold Rf.lift
  split
  · exact Rf.forget_len _
  · exact Nat.le_refl _
theorem Rf.reach_len (r : Rf) (f : Int) : (r.reach f).items.length ≤ r.items.length := by
  unfold Rf.reach
  split
  · exact Rf.forget_len _
  · exact Nat.le_refl _
/-- A write into the document's hold. -/
theorem IsR.set {w w' : World} {r r' : Rf} {i : Nat} {v : Value} (h : IsR w E b r) (he : ∀ a n c, (r.enc a n c).set i v = r'.enc a n c) (hi : r'.items = r.items) (h1 : ∀ cs, IsB w b cs → IsB w' b (cs.set i v)) (k : Keep (· = b) w w') : IsR w' E b r' := by
  obtain ⟨⟨a, c, g1, g2, g3⟩, g4⟩ := h
  refine ⟨⟨a, c, ?_, ?_, g3⟩, g4⟩
  · rw [hi, ← he]; exact h1 _ g1
  · rw [hi]; exact g2.keep k fun i hi e => (g3 i hi).2 e
theorem st1_R {K : PT} {r r' : Rf} {i : Nat} {v : Value} (h : IsR w E b r) (he : ∀ a n c, (r.enc a n c).set i v = r'.enc a n c) (hr : r'.items = r.items) (hi : i < 6) (hv : v.oneCell' = true) (hk : ∀ w', IsR w' E b r' → Keep (fun k => ¬ E k) w w' → w'.heap.size = w.heap.size → K w') : st1 ⟨b, i, none⟩ v K w := by
  obtain ⟨⟨a, c, g1, g2, g3⟩, g4⟩ := h
  refine ⟨hv, by rw [g1.cell]; simp [Rf.enc]; omega, g1.frozen _, ?_⟩
  have k : Keep (· = b) w (w.setCell ⟨b, i, none⟩ v) := Keep.setCell (S := (· = b)) Keep.refl (.inl rfl) v
  refine hk _ (IsR.set ⟨⟨a, c, g1, g2, g3⟩, g4⟩ he hr (fun cs hcs => hcs.set i v) k) (k.mono fun i _ e => by subst e; exact g4) (by simp)
theorem ldR {k : IntKind} {K : Int → PT} {i : Nat} {n : Int} (h : IsR w E b r) (hc : ∀ a n' c, (r.enc a n' c)[i]? = some (.int k n)) (hk : K n w) : ldI k ⟨b, i, none⟩ K w := by
  obtain ⟨⟨a, c, g1, g2, g3⟩, g4⟩ := h
  exact ldI_of ((g1.cell i).trans (hc _ _ _)) hk

theorem liftR_F {Q : PT} {f : Int} (hb : IsR w E b r) (hE : ∀ k, E k → k < w.heap.size) (hl : r.items.length ≤ 1000) (hq : ∀ w', IsR w' E b (r.lift f) → Keep (fun k => ¬ E k) w w' → Q w') : ref18_Hold_Lift.F Z Q (some ⟨b, 0, none⟩) f w := by
  unfold ref18_Hold_Lift.F
  simp only [nn_some, add_mk]
  refine ldR hb (fun _ _ _ => rfl) ?_
  rw [pif_dec]
  unfold Rf.lift at hq
  split
  · rw [if_pos ‹_›] at hq
    refine st1_R (r' := { r with floor := f }) hb (fun _ _ _ => rfl) rfl (by omega) rfl fun w1 h1 k1 s1 => ?_
    refine ldR h1 (fun _ _ _ => rfl) ?_
    refine st1_R (r' := { r with floor := f, top := if f > r.top then f else r.top }) h1 (fun _ _ _ => rfl) rfl (by omega) rfl fun w2 h2 k2 s2 => ?_
    refine ref18_Hold_Forget.cal (forget_F h2 (fun k hk => by have := hE k hk; omega) hl fun w3 h3 k3 => ?_)
    exact hq w3 h3 (k1.trans (k2.trans k3))
  · rw [if_neg ‹_›] at hq
    exact hq w hb Keep.refl

theorem itemR_F {Q : Int → PT} {f e i o : Int} (hb : IsR w E b r) (hE : ∀ k, E k → k < w.heap.size) (hl : r.items.length ≤ 999) (hq : ∀ w', IsR w' E b (r.item f e i o).1 → Keep (fun k => ¬ E k) w w' → Q (r.item f e i o).2 w') : ref18_Hold_Item.F Z Q (some ⟨b, 0, none⟩) f e i o w := by
  unfold ref18_Hold_Item.F ref18_Hold_Item.s27
  simp only [pif_dec]
  unfold Rf.item at hq
  by_cases g1 : f < 0
  · simp only [if_pos g1] at hq ⊢; exact hq w hb Keep.refl
  by_cases g2 : e < 1
  · simp only [if_neg g1, if_pos g2] at hq ⊢; exact hq w hb Keep.refl
  by_cases g3 : i < 0
  · simp only [if_neg g1, if_neg g2, if_pos g3] at hq ⊢; exact hq w hb Keep.refl
  by_cases g4 : o ≤ i
  · simp only [if_neg g1, if_neg g2, if_neg g3, if_pos g4] at hq ⊢; exact hq w hb Keep.refl
  simp only [if_neg g1, if_neg g2, if_neg g3, if_neg g4] at hq ⊢
  refine ref18_Hold_Lift.cal (liftR_F hb hE (by omega) fun w1 h1 k1 => ?_)
  have l1 := Rf.lift_len r f
  have hE1 : ∀ k, E k → k < w1.heap.size := fun k hk => by have := hE k hk; have := k1.size; omega
  -- behind the top's turn
  have rest : ∀ w2, IsR w2 E b ((r.lift f).reach e) → Keep (fun k => ¬ E k) w w2 → ref18_Hold_Item.s25 Z Q (some ⟨b, 0, none⟩) e i o w2 := fun w2 h2 k2 => by
    have l2 := Rf.reach_len (r.lift f) e
    generalize (r.lift f).reach e = g at h2 hq l2
    unfold ref18_Hold_Item.s25
    refine ref18_Hold_Count.cal (countR_F h2 (by omega) ?_)
    unfold Rf.itemIn at hq
    generalize Rf.count e g.items 0 0 = cn at hq ⊢
    obtain ⟨n, al⟩ := cn
    simp only at hq ⊢
    -- the last tests
    have last : ∀ t : Bool, (t = true ↔ (e ≠ g.floor ∧ e ≠ g.top) ∨ (n > 0 ∧ al ≠ o) ∨ i > n) → ref18_Hold_Item.s19 Z Q (some ⟨b, 0, none⟩) e i o n t w2 := fun t ht => by
      unfold ref18_Hold_Item.s19
      rw [pif_bool]
      split
      · rename_i h
        simp only [if_pos (ht.1 h)] at hq
        exact hq w2 h2 k2
      · rename_i h
        simp only [if_neg (fun g => h (ht.2 g))] at hq
        unfold ref18_Hold_Item.s13
        rw [pif_dec]
        by_cases h5 : i < n
        · simp only [if_pos h5] at hq ⊢; exact hq w2 h2 k2
        · simp only [if_neg h5] at hq ⊢
          obtain ⟨⟨a, c, b2, r2, i2⟩, o2⟩ := h2
          simp only [nn_some, add_mk]
          refine ldL_of (b2.cell 5) ?_
          refine cnd_of rfl ?_
          refine newC_B fun w3 h3 k3 s3 => ?_
          refine appR (r2.ext k3) (x := (e, o)) (by omega) ?_ fun a3 c3 w4 h4 k4 i4 => ?_
          · intro j u hu
            rw [add_mk, h3.cell]
            simpa [itemCells] using hu
          · have hin : ∀ k, inB a3 k → ¬ E k ∧ k ≠ b := fun k hk => by
              rcases i4 k hk with h | h
              · exact i2 k h
              · have := b2.lt; have := k3.size; have := k2.size
                exact ⟨fun g => by have := hE k g; omega, by omega⟩
            have b4 := (b2.ext k3).keep k4 fun hin => (i2 b hin).2 rfl
            refine st1_B b4 (by simp [Rf.enc]) rfl fun w5 b5 k5 => ?_
            refine hq w5 ⟨⟨a3, c3, ?_, ?_, hin⟩, o2⟩ (k2.trans (k3.ext.trans ((k4.mono fun k _ hk => (i2 k hk).1).trans (k5.mono fun k _ e => by subst e; exact o2))))
            · rw [List.length_append]; exact b5
            · rw [List.length_append]; exact h4.keep k5 fun k hk e => (hin k hk).2 e
    unfold ref18_Hold_Item.s22
    simp only [nn_some, add_mk]
    refine ldR h2 (fun _ _ _ => rfl) ?_
    have mid : (e = g.floor ∨ e = g.top) → (if n > 0 then (if al = o then ref18_Hold_Item.s19 Z Q (some ⟨b, 0, none⟩) e i o n (decide (i > n)) w2 else ref18_Hold_Item.s19 Z Q (some ⟨b, 0, none⟩) e i o n true w2) else ref18_Hold_Item.s19 Z Q (some ⟨b, 0, none⟩) e i o n (decide (i > n)) w2) := fun he => by
      split
      · split
        · exact last _ (by grind)
        · exact last _ (by grind)
      · exact last _ (by grind)
    simp only [pif_bne, pif_dec]
    split
    · exact mid (.inl ‹_›)
    · refine ldR h2 (fun _ _ _ => rfl) ?_
      simp only [pif_bne, pif_dec]
      split
      · exact mid (.inr ‹_›)
      · exact last true (by simp_all)
  simp only [nn_some, add_mk]
  refine ldR h1 (fun _ _ _ => rfl) ?_
  rw [pif_dec]
  unfold Rf.reach at rest
  split
  · rw [if_pos ‹_›] at rest
    refine st1_R (r' := { r.lift f with top := e }) h1 (fun _ _ _ => rfl) rfl (by omega) rfl fun w2 h2 k2 s2 => ?_
    refine ref18_Hold_Forget.cal (forget_F h2 (fun k hk => by have := hE1 k hk; omega) (by show (r.lift f).items.length ≤ 1000; omega) fun w3 h3 k3 => ?_)
    exact rest w3 h3 (k1.trans (k2.trans k3))
  · rw [if_neg ‹_›] at rest
    exact rest w1 h1 k1

theorem leadR_F {Q : Bool → PT} {s u f : Int} (hb : IsR w E b r) (hE : ∀ k, E k → k < w.heap.size) (hl : r.items.length ≤ 999) (hq : ∀ w', IsR w' E b (r.lead s u f).1 → Keep (fun k => ¬ E k) w w' → Q (r.lead s u f).2 w') : ref18_Hold_Lead.F Z Q (some ⟨b, 0, none⟩) s u f w := by
  unfold ref18_Hold_Lead.F ref18_Hold_Lead.s15
  simp only [pif_dec]
  unfold Rf.lead at hq
  by_cases g1 : s < 0
  · simp only [if_pos g1] at hq ⊢; exact hq w hb Keep.refl
  by_cases g2 : u < 0
  · simp only [if_neg g1, if_pos g2] at hq ⊢; exact hq w hb Keep.refl
  by_cases g3 : f < 0
  · simp only [if_neg g1, if_neg g2, if_pos g3] at hq ⊢; exact hq w hb Keep.refl
  simp only [if_neg g1, if_neg g2, if_neg g3] at hq ⊢
  refine ref18_Hold_Lift.cal (liftR_F hb hE (by omega) fun w1 h1 k1 => ?_)
  have l1 := Rf.lift_len r f
  generalize r.lift f = g at hq h1 l1
  refine ref18_Hold_Full.cal (fullR_F h1 (by omega) ?_)
  -- the second turn
  have second : ∀ (g1 : Rf) (w2 : World), g.turn1 s u = g1 → IsR w2 E b g1 → Keep (fun k => ¬ E k) w w2 → g1.items.length ≤ 999 → ref18_Hold_Lead.s13 Z Q (some ⟨b, 0, none⟩) s u w2 := fun g1 w2 e1 h2 k2 l2 => by
    rw [e1] at hq
    unfold ref18_Hold_Lead.s13
    refine ref18_Hold_Full.cal (fullR_F h2 (by omega) ?_)
    have fin : ∀ (g2 : Rf) (w3 : World), g1.turn2 s u = g2 → IsR w3 E b g2 → Keep (fun k => ¬ E k) w w3 → ref18_Hold_Lead.s10 Z Q (some ⟨b, 0, none⟩) u w3 := fun g2 w3 e2 h3 k3 => by
      rw [e2] at hq
      unfold ref18_Hold_Lead.s10
      have := hq w3 h3 k3
      rw [pif_dec]
      split
      · rw [if_pos ‹_›] at this
        exact ldR h3 (fun _ _ _ => rfl) this
      · rwa [if_neg ‹_›] at this
    rw [pif_bool]
    split
    · rename_i hf
      simp only [nn_some, add_mk]
      refine ldR h2 (fun _ _ _ => rfl) ?_
      rw [pif_dec]
      split
      · rename_i hu
        refine st1_R (r' := { g1 with use := u }) h2 (fun _ _ _ => rfl) rfl (by omega) rfl fun w3 h3 k3 s3 => ?_
        refine st1_R (r' := { g1 with use := u, said := s }) h3 (fun _ _ _ => rfl) rfl (by omega) rfl fun w4 h4 k4 s4 => ?_
        exact fin _ w4 (by unfold Rf.turn2; rw [if_pos ⟨hf, hu⟩]) h4 (k2.trans (k3.trans k4))
      · rename_i hu
        exact fin _ w2 (by unfold Rf.turn2; rw [if_neg (fun h => hu h.2)]) h2 k2
    · rename_i hf
      exact fin _ w2 (by unfold Rf.turn2; rw [if_neg (fun h => hf h.1)]) h2 k2
  rw [pif_bool]
  split
  · rename_i hf
    simp only [nn_some, add_mk]
    refine ldR h1 (fun _ _ _ => rfl) ?_
    rw [pif_beq]
    split
    · rename_i hu
      refine ldR h1 (fun _ _ _ => rfl) ?_
      rw [pif_dec]
      split
      · rename_i hs
        refine st1_R (r' := { g with said := s }) h1 (fun _ _ _ => rfl) rfl (by omega) rfl fun w2 h2 k2 s2 => ?_
        exact second _ w2 (by unfold Rf.turn1; rw [if_pos ⟨hf, hu, hs⟩]) h2 (k1.trans k2) (by show g.items.length ≤ 999; omega)
      · rename_i hs
        exact second _ w1 (by unfold Rf.turn1; rw [if_neg (fun h => hs h.2.2)]) h1 k1 (by omega)
    · rename_i hu
      exact second _ w1 (by unfold Rf.turn1; rw [if_neg (fun h => hu h.2.1)]) h1 k1 (by omega)
  · rename_i hf
    exact second _ w1 (by unfold Rf.turn1; rw [if_neg (fun h => hf h.1)]) h1 k1 (by omega)
end
end Go.Proofs.Ythheldpjcndelaa
