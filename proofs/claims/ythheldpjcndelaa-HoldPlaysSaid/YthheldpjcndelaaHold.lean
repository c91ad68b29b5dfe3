/-
  What a switch's hold does (package hold), as functions on nine numbers, and that the code does just this. No condition but that numbers are ints.
-/
import Derived.Test.YthheldpjcndelaaWlMem
import Derived.Test.YthheldpjcndelaaCode1
namespace Go.Proofs.Ythheldpjcndelaa
open Go.RowKit
set_option linter.unusedVariables false
set_option linter.unusedSimpArgs false

structure Hd where
  inc : Int
  fe : Int
  fc : Int
  fo : Int
  te : Int
  tc : Int
  tt : Int
  use : Int
  said : Int
namespace Hd
def enc (h : Hd) : List Value := [.int .i64 h.inc, .int .i64 h.fe, .int .i64 h.fc, .int .i64 h.fo, .int .i64 h.te, .int .i64 h.tc, .int .i64 h.tt, .int .i64 h.use, .int .i64 h.said]
def zero (inc : Int) : Hd := ⟨inc, 0, 0, 0, 0, 0, 0, 0, 0⟩
def part (h : Hd) (b : Nat) (e : Int) : Option Addr := if e < 1 then none else if e = h.fe then some ⟨b, 1, none⟩ else if e = h.te then some ⟨b, 4, none⟩ else none
def cnt (h : Hd) (e : Int) : Int := if e < 1 then 0 else if e = h.fe then h.fc else if e = h.te then h.tc else 0
def off (h : Hd) (e : Int) : Int := if e < 1 then 0 else if e = h.fe then h.fo else if e = h.te then h.tt else 0
def full (h : Hd) (e : Int) : Bool := if h.off e > 0 then h.cnt e == h.off e else false
def settle (h : Hd) : Hd := if isNone (h.part 0 h.use) = true then { h with use := 0, said := 0 } else h
def lift (h : Hd) (f : Int) : Hd :=
  if f ≤ h.fe then h
  else if f = h.te then settle { h with fe := h.te, fc := h.tc, fo := h.tt }
  else if f > h.te then settle { h with fe := f, fc := 0, fo := 0, te := f, tc := 0, tt := 0 }
  else settle { h with fe := f, fc := 0, fo := 0 }
def reach (h : Hd) (e : Int) : Hd := if e > h.te then settle { h with te := e, tc := 0, tt := 0 } else h
/-- One item more of an epoch that is held, now of so many. -/
def bump (h : Hd) (e o : Int) : Hd := if e = h.fe then { h with fc := h.fc + 1, fo := o } else { h with tc := h.tc + 1, tt := o }
def itemIn (h : Hd) (e i o : Int) : Hd × Int :=
  if isNone (h.part 0 e) = true then (h, 0)
  else if h.cnt e > 0 ∧ h.off e ≠ o then (h, 0)
  else if i > h.cnt e then (h, 0)
  else if i < h.cnt e then (h, 2)
  else (h.bump e o, 1)
def item (h : Hd) (f e i o : Int) : Hd × Int :=
  if f < 0 then (h, 0) else if e < 1 then (h, 0) else if i < 0 then (h, 0) else if o ≤ i then (h, 0) else ((h.lift f).reach e).itemIn e i o
def turn (h : Hd) (sent use : Int) : Hd :=
  if h.full use = true ∧ use ≥ h.use then
    { h with use := use, said := if use > h.use then sent else if sent > h.said then sent else h.said }
  else h
def leadIn (h : Hd) (sent use : Int) : Hd × Bool := (h.turn sent use, if use > 0 then (h.turn sent use).use == use else false)
def lead (h : Hd) (sent use f : Int) : Hd × Bool :=
  if sent < 0 then (h, false) else if use < 0 then (h, false) else if f < 0 then (h, false) else (h.lift f).leadIn sent use
def live (h : Hd) (now lease : Int) : Bool :=
  if h.use > 0 then decide (IntKind.wrap .i64 ((if (if 1099511627776 < now then 1099511627776 else now) > 0 then (if 1099511627776 < now then 1099511627776 else now) else 0) - h.said) < lease) else false
end Hd

section
variable {Z : List PanicEntry → PT} {w : World} {b : Nat} {h : Hd}

theorem cellH (hb : IsB w b h.enc) : w.cell? ⟨b, 0, none⟩ = some (.int .i64 h.inc) ∧ w.cell? ⟨b, 1, none⟩ = some (.int .i64 h.fe) ∧ w.cell? ⟨b, 2, none⟩ = some (.int .i64 h.fc) ∧ w.cell? ⟨b, 3, none⟩ = some (.int .i64 h.fo) ∧
    w.cell? ⟨b, 4, none⟩ = some (.int .i64 h.te) ∧ w.cell? ⟨b, 5, none⟩ = some (.int .i64 h.tc) ∧ w.cell? ⟨b, 6, none⟩ = some (.int .i64 h.tt) ∧ w.cell? ⟨b, 7, none⟩ = some (.int .i64 h.use) ∧ w.cell? ⟨b, 8, none⟩ = some (.int .i64 h.said) :=
  ⟨hb.cell 0, hb.cell 1, hb.cell 2, hb.cell 3, hb.cell 4, hb.cell 5, hb.cell 6, hb.cell 7, hb.cell 8⟩

theorem new_F {Q : Option Addr → PT} {inc : Int} (hq : ∀ w', IsB w' w.heap.size (Hd.zero inc).enc → Ext w w' → Q (some ⟨w.heap.size, 0, none⟩) w') : hold_New.F Z Q inc w := by
  unfold hold_New.F
  exact newC_B fun w' h1 h2 _ => hq w' h1 h2

theorem use_F {Q : Int → PT} (hb : IsB w b h.enc) (hq : Q h.use w) : hold_Hold_Use.F Z Q (some ⟨b, 0, none⟩) w := by
  simp only [hold_Hold_Use.F, isNone_some, pif_false, nn_some, add_mk]
  exact ldI_B hb rfl hq
theorem floor_F {Q : Int → PT} (hb : IsB w b h.enc) (hq : Q h.fe w) : hold_Hold_Floor.F Z Q (some ⟨b, 0, none⟩) w := by
  simp only [hold_Hold_Floor.F, isNone_some, pif_false, nn_some, add_mk]
  exact ldI_B hb rfl hq
theorem top_F {Q : Int → PT} (hb : IsB w b h.enc) (hq : Q h.te w) : hold_Hold_Top.F Z Q (some ⟨b, 0, none⟩) w := by
  simp only [hold_Hold_Top.F, isNone_some, pif_false, nn_some, add_mk]
  exact ldI_B hb rfl hq
theorem inc_F {Q : Int → PT} (hb : IsB w b h.enc) (hq : Q h.inc w) : hold_Hold_Inc.F Z Q (some ⟨b, 0, none⟩) w := by
  simp only [hold_Hold_Inc.F, isNone_some, pif_false, nn_some, add_mk]
  exact ldI_B hb rfl hq

theorem part_F {Q : Option Addr → PT} {e : Int} (hb : IsB w b h.enc) (hq : Q (h.part b e) w) : hold_Hold_part.F Z Q (some ⟨b, 0, none⟩) e w := by
  simp only [hold_Hold_part.F, isNone_some, pif_false, nn_some, add_mk, pif_dec]
  unfold Hd.part at hq
  split
  · rwa [if_pos ‹_›] at hq
  · rw [if_neg ‹_›] at hq
    refine ldI_B hb rfl ?_
    rw [pif_beq]
    split
    · rwa [if_pos ‹_›] at hq
    · rw [if_neg ‹_›] at hq
      refine ldI_B hb rfl ?_
      rw [pif_beq]
      split
      · rwa [if_pos ‹_›] at hq
      · rwa [if_neg ‹_›] at hq

theorem part_none (e : Int) : isNone (h.part b e) = isNone (h.part 0 e) := by
  unfold Hd.part
  repeat' split
  all_goals rfl

theorem settle_F {Q : PT} (hb : IsB w b h.enc) (hq : ∀ w', IsB w' b h.settle.enc → Keep (· = b) w w' → Q w') : hold_Hold_settle.F Z Q (some ⟨b, 0, none⟩) w := by
  simp only [hold_Hold_settle.F, nn_some, add_mk]
  refine ldI_B hb rfl ?_
  refine hold_Hold_part.cal (part_F hb ?_)
  rw [pif_bool, part_none]
  unfold Hd.settle at hq
  split
  · rw [if_pos ‹_›] at hq
    refine st1_B hb (by simp [Hd.enc]) rfl fun w1 h1 k1 => ?_
    refine st1_B h1 (by simp [Hd.enc]) rfl fun w2 h2 k2 => ?_
    exact hq w2 h2 (k1.trans k2)
  · rw [if_neg ‹_›] at hq
    exact hq w hb Keep.refl

theorem lift_F {Q : PT} {f : Int} (hb : IsB w b h.enc) (hq : ∀ w', IsB w' b (h.lift f).enc → Keep (· = b) w w' → Q w') : hold_Hold_lift.F Z Q (some ⟨b, 0, none⟩) f w := by
  simp only [hold_Hold_lift.F, nn_some, add_mk]
  refine ldI_B hb rfl ?_
  rw [pif_dec]
  unfold Hd.lift at hq
  split
  · rw [if_pos ‹_›] at hq; exact hq w hb Keep.refl
  · rw [if_neg ‹_›] at hq
    refine ldI_B hb rfl ?_
    rw [pif_beq]
    split
    · rw [if_pos ‹_›] at hq
      refine ldN_B hb (vs := [.int .i64 h.te, .int .i64 h.tc, .int .i64 h.tt]) rfl rfl ?_
      refine stN_B hb (by simp [Hd.enc]) rfl (by simp [Value.oneCell']) fun w1 h1 k1 => ?_
      refine hold_Hold_settle.cal (settle_F (h := { h with fe := h.te, fc := h.tc, fo := h.tt }) h1 fun w2 h2 k2 => ?_)
      exact hq w2 h2 (k1.trans k2)
    · rw [if_neg ‹_›] at hq
      refine ldI_B hb rfl ?_
      rw [pif_dec]
      split
      · rw [if_pos ‹_›] at hq
        refine stN_B hb (by simp [Hd.enc]) rfl (by simp [Value.oneCell']) fun w1 h1 k1 => ?_
        refine ldN_B h1 (vs := [.int .i64 f, .int .i64 0, .int .i64 0]) rfl rfl ?_
        refine stN_B h1 (by simp [Hd.enc, lay]) rfl (by simp [Value.oneCell']) fun w2 h2 k2 => ?_
        refine hold_Hold_settle.cal (settle_F (h := { h with fe := f, fc := 0, fo := 0, te := f, tc := 0, tt := 0 }) h2 fun w3 h3 k3 => ?_)
        exact hq w3 h3 (k1.trans (k2.trans k3))
      · rw [if_neg ‹_›] at hq
        refine stN_B hb (by simp [Hd.enc]) rfl (by simp [Value.oneCell']) fun w1 h1 k1 => ?_
        refine hold_Hold_settle.cal (settle_F (h := { h with fe := f, fc := 0, fo := 0 }) h1 fun w2 h2 k2 => ?_)
        exact hq w2 h2 (k1.trans k2)

theorem reach_F {Q : PT} {e : Int} (hb : IsB w b h.enc) (hq : ∀ w', IsB w' b (h.reach e).enc → Keep (· = b) w w' → Q w') : hold_Hold_reach.F Z Q (some ⟨b, 0, none⟩) e w := by
  simp only [hold_Hold_reach.F, nn_some, add_mk]
  refine ldI_B hb rfl ?_
  rw [pif_dec]
  unfold Hd.reach at hq
  split
  · rw [if_pos ‹_›] at hq
    refine stN_B hb (by simp [Hd.enc]) rfl (by simp [Value.oneCell']) fun w1 h1 k1 => ?_
    refine hold_Hold_settle.cal (settle_F (h := { h with te := e, tc := 0, tt := 0 }) h1 fun w2 h2 k2 => ?_)
    exact hq w2 h2 (k1.trans k2)
  · rw [if_neg ‹_›] at hq; exact hq w hb Keep.refl

theorem count_F {Q : Int → Int → PT} {e : Int} (hb : IsB w b h.enc) (hq : ∀ w', IsB w' b h.enc → Ext w w' → Q (h.cnt e) (h.off e) w') : hold_Hold_Count.F Z Q (some ⟨b, 0, none⟩) e w := by
  unfold hold_Hold_Count.F
  refine hold_Hold_part.cal (part_F hb ?_)
  have hq0 := hq w hb Keep.refl
  have hq1 := hq w.drew hb.drew Keep.refl.drew
  unfold Hd.cnt Hd.off at hq0 hq1
  unfold Hd.part
  by_cases h1 : e < 1
  · simp only [if_pos h1] at hq0 ⊢; exact hq0
  · simp only [if_neg h1] at hq0 hq1 ⊢
    by_cases h2 : e = h.fe
    · simp only [if_pos h2] at hq1 ⊢
      exact ldI_B hb.drew rfl (ldI_B hb.drew rfl hq1)
    · simp only [if_neg h2] at hq0 hq1 ⊢
      by_cases h3 : e = h.te
      · simp only [if_pos h3] at hq1 ⊢
        exact ldI_B hb.drew rfl (ldI_B hb.drew rfl hq1)
      · simp only [if_neg h3] at hq0 ⊢; exact hq0

theorem full_F {Q : Bool → PT} {e : Int} (hb : IsB w b h.enc) (hq : ∀ w', IsB w' b h.enc → Ext w w' → Q (h.full e) w') : hold_Hold_Full.F Z Q (some ⟨b, 0, none⟩) e w := by
  unfold hold_Hold_Full.F
  refine hold_Hold_Count.cal (count_F hb fun w1 h1 k1 => ?_)
  have := hq w1 h1 k1
  rw [pif_dec]
  unfold Hd.full at this
  split
  · rwa [if_pos ‹_›] at this
  · rwa [if_neg ‹_›] at this

theorem live_F {Q : Bool → PT} {now lease : Int} (hb : IsB w b h.enc) (hq : Q (h.live now lease) w) : hold_Hold_Live.F Z Q (some ⟨b, 0, none⟩) now lease w := by
  unfold hold_Hold_Live.F
  refine hold_Hold_Use.cal (use_F hb ?_)
  rw [pif_dec]
  unfold Hd.live at hq
  split
  · rw [if_pos ‹_›] at hq
    simp only [nn_some, add_mk]
    exact ldI_B hb rfl hq
  · rwa [if_neg ‹_›] at hq


/-- What an item does to a part that is held. -/
theorem bump_enc {e o : Int} {a : Nat} (hp : h.part b e = some ⟨b, a, none⟩) : (h.enc.set (a + 1) (.int .i64 (h.cnt e + 1))).set (a + 2) (.int .i64 o) = (h.bump e o).enc ∧ h.enc[a + 1]? = some (.int .i64 (h.cnt e)) ∧ h.enc[a + 2]? = some (.int .i64 (h.off e)) ∧ a + 2 < h.enc.length := by
  unfold Hd.part at hp
  unfold Hd.bump Hd.cnt Hd.off
  by_cases h1 : e < 1
  · rw [if_pos h1] at hp; cases hp
  · simp only [if_neg h1] at hp ⊢
    by_cases h2 : e = h.fe
    · simp only [if_pos h2] at hp ⊢; cases hp; simp [Hd.enc]
    · simp only [if_neg h2] at hp ⊢
      by_cases h3 : e = h.te
      · simp only [if_pos h3] at hp ⊢; cases hp; simp [Hd.enc]
      · simp only [if_neg h3] at hp; cases hp

theorem part_at {e : Int} {p : Addr} (hp : h.part b e = some p) : ∃ a, p = ⟨b, a, none⟩ := by
  unfold Hd.part at hp
  by_cases h1 : e < 1
  · rw [if_pos h1] at hp; cases hp
  · simp only [if_neg h1] at hp
    by_cases h2 : e = h.fe
    · simp only [if_pos h2] at hp; cases hp; exact ⟨_, rfl⟩
    · simp only [if_neg h2] at hp
      by_cases h3 : e = h.te
      · simp only [if_pos h3] at hp; cases hp; exact ⟨_, rfl⟩
      · simp only [if_neg h3] at hp; cases hp

theorem item_F {Q : Int → PT} {f e i o : Int} (ho : o ≤ 9223372036854775807) (hb : IsB w b h.enc) (hq : ∀ w', IsB w' b (h.item f e i o).1.enc → Keep (· = b) w w' → Q (h.item f e i o).2 w') : hold_Hold_Item.F Z Q (some ⟨b, 0, none⟩) f e i o w := by
  simp only [hold_Hold_Item.F, isNone_some, pif_false, nn_some, pif_dec]
  unfold Hd.item at hq
  by_cases g1 : f < 0
  · simp only [if_pos g1] at hq ⊢; exact hq w hb Keep.refl
  by_cases g2 : e < 1
  · simp only [if_neg g1, if_pos g2] at hq ⊢; exact hq w hb Keep.refl
  by_cases g3 : i < 0
  · simp only [if_neg g1, if_neg g2, if_pos g3] at hq ⊢; exact hq w hb Keep.refl
  by_cases g4 : o ≤ i
  · simp only [if_neg g1, if_neg g2, if_neg g3, if_pos g4] at hq ⊢; exact hq w hb Keep.refl
  simp only [if_neg g1, if_neg g2, if_neg g3, if_neg g4] at hq ⊢
  refine hold_Hold_lift.cal (lift_F hb fun w1 h1 k1 => ?_)
  refine hold_Hold_reach.cal (reach_F h1 fun w2 h2 k2 => ?_)
  refine hold_Hold_part.cal (part_F h2 ?_)
  have k12 := k1.trans k2
  generalize (h.lift f).reach e = g at hq h2
  unfold Hd.itemIn at hq
  have hn : isNone (g.part b e) = isNone (g.part 0 e) := part_none e
  cases hp : g.part b e with
  | none =>
    rw [hp] at hn
    simp only [← hn, isNone_none, if_true] at hq
    simp only [isNone_none, pif_true]
    exact hq w2 h2 k12
  | some p =>
    rw [hp] at hn
    obtain ⟨a, rfl⟩ := part_at hp
    obtain ⟨e1, e2, e3, e4⟩ := bump_enc (o := o) hp
    simp only [← hn, isNone_some, Bool.false_eq_true, if_false] at hq
    simp only [isNone_some, pif_false, nn_some, add_mk]
    -- the two ways to the last two tests are one
    have last : ¬ (g.cnt e > 0 ∧ g.off e ≠ o) → (if i > g.cnt e then Q 0 w2 else if i < g.cnt e then Q 2 w2 else ∀ w', IsB w' b (g.bump e o).enc → Keep (· = b) w2 w' → Q 1 w') := fun hc => by
      simp only [if_neg hc] at hq
      by_cases g5 : i > g.cnt e
      · simp only [if_pos g5] at hq ⊢; exact hq w2 h2 k12
      · simp only [if_neg g5] at hq ⊢
        by_cases g6 : i < g.cnt e
        · simp only [if_pos g6] at hq ⊢; exact hq w2 h2 k12
        · simp only [if_neg g6] at hq ⊢
          exact fun w' h' k' => hq w' h' (k12.trans k')
    have fin : ¬ (g.cnt e > 0 ∧ g.off e ≠ o) → ldI .i64 ⟨b, a + 1, none⟩ (fun v18 => pif (decide (i > v18)) (Q 0) (ldI .i64 ⟨b, a + 1, none⟩ fun v20 => pif (decide (i < v20)) (Q 2) (ldI .i64 ⟨b, a + 1, none⟩ fun v22 =>
        st1 ⟨b, a + 1, none⟩ (.int .i64 (IntKind.wrap .i64 (v22 + 1))) (st1 ⟨b, a + 2, none⟩ (.int .i64 o) (Q 1))))) w2 := fun hc => by
      have hl := last hc
      refine ldI_B h2 e2 ?_
      rw [pif_dec]
      by_cases g5 : i > g.cnt e
      · rw [if_pos g5] at hl ⊢; exact hl
      · rw [if_neg g5] at hl ⊢
        refine ldI_B h2 e2 ?_
        rw [pif_dec]
        by_cases g6 : i < g.cnt e
        · rw [if_pos g6] at hl ⊢; exact hl
        · rw [if_neg g6] at hl ⊢
          refine ldI_B h2 e2 ?_
          rw [wrap_in (by omega) (by omega)]
          refine st1_B h2 (by omega) rfl fun w3 h3 k3 => ?_
          refine st1_B h3 (by simp; omega) rfl fun w4 h4 k4 => ?_
          rw [e1] at h4
          exact hl w4 h4 (k3.trans k4)
    refine ldI_B h2 e2 ?_
    rw [pif_dec]
    by_cases g7 : g.cnt e > 0
    · rw [if_pos g7]
      refine ldI_B h2 e3 ?_
      rw [pif_bne]
      by_cases g8 : g.off e = o
      · rw [if_pos g8]
        exact fin (by rintro ⟨_, h⟩; exact h g8)
      · rw [if_neg g8, pif_bne, if_neg g8]
        simp only [if_pos (And.intro g7 g8)] at hq
        exact hq w2 h2 k12
    · rw [if_neg g7]
      exact fin (by rintro ⟨h, _⟩; exact g7 h)

theorem lead_F {Q : Bool → PT} {sent use f : Int} (hb : IsB w b h.enc) (hq : ∀ w', IsB w' b (h.lead sent use f).1.enc → Keep (· = b) w w' → Q (h.lead sent use f).2 w') : hold_Hold_Lead.F Z Q (some ⟨b, 0, none⟩) sent use f w := by
  simp only [hold_Hold_Lead.F, isNone_some, pif_false, nn_some, pif_dec, add_mk]
  unfold Hd.lead at hq
  by_cases g1 : sent < 0
  · simp only [if_pos g1] at hq ⊢; exact hq w hb Keep.refl
  by_cases g2 : use < 0
  · simp only [if_neg g1, if_pos g2] at hq ⊢; exact hq w hb Keep.refl
  by_cases g3 : f < 0
  · simp only [if_neg g1, if_neg g2, if_pos g3] at hq ⊢; exact hq w hb Keep.refl
  simp only [if_neg g1, if_neg g2, if_neg g3] at hq ⊢
  refine hold_Hold_lift.cal (lift_F hb fun w1 h1 k1 => ?_)
  refine hold_Hold_Full.cal (full_F h1 fun w2 h2 k2 => ?_)
  have k12 : Keep (· = b) w w2 := k1.trans k2.ext
  generalize h.lift f = g at hq h2
  -- the end
  have fin : ∀ {g' : Hd} {w3 : World}, IsB w3 b g'.enc → Keep (· = b) w w3 → g' = g.turn sent use → pif (decide (use > 0)) (ldI .i64 ⟨b, 7, none⟩ fun v => Q (v == use)) (Q false) w3 := fun {g' w3} h3 k3 he => by
    have := hq w3 (by unfold Hd.leadIn; rw [← he]; exact h3) k3
    unfold Hd.leadIn at this
    rw [← he] at this
    rw [pif_dec]
    by_cases g4 : use > 0
    · simp only [if_pos g4] at this ⊢
      exact ldI_B h3 rfl this
    · simp only [if_neg g4] at this ⊢; exact this
  rw [pif_bool]
  by_cases g5 : g.full use = true
  · rw [if_pos g5]
    refine ldI_B h2 rfl ?_
    simp only [Nat.zero_add]
    rw [pif_dec]
    by_cases g6 : use ≥ g.use
    · rw [if_pos g6]
      refine ldI_B h2 rfl ?_
      rw [pif_dec]
      by_cases g7 : use > g.use
      · rw [if_pos g7]
        refine st1_B h2 (by simp [Hd.enc]) rfl fun w3 h3 k3 => ?_
        refine st1_B h3 (by simp [Hd.enc]) rfl fun w4 h4 k4 => ?_
        refine ldI_B h4 rfl ?_
        refine st1_B h4 (by simp [Hd.enc]) rfl fun w5 h5 k5 => ?_
        refine fin (g' := { g with use := use, said := if sent > sent then sent else sent }) h5 (k12.trans (k3.trans (k4.trans k5))) ?_
        simp only [Hd.turn, if_pos (And.intro g5 g6), if_pos g7]
        simp
      · rw [if_neg g7]
        refine st1_B h2 (by simp [Hd.enc]) rfl fun w4 h4 k4 => ?_
        refine ldI_B h4 rfl ?_
        refine st1_B h4 (by simp [Hd.enc]) rfl fun w5 h5 k5 => ?_
        refine fin (g' := { g with use := use, said := if sent > g.said then sent else g.said }) h5 (k12.trans (k4.trans k5)) ?_
        simp only [Hd.turn, if_pos (And.intro g5 g6), if_neg g7]
    · rw [if_neg g6]
      refine fin h2 k12 ?_
      unfold Hd.turn
      rw [if_neg (fun h => g6 h.2)]
  · rw [if_neg g5]
    refine fin h2 k12 ?_
    unfold Hd.turn
    rw [if_neg (fun h => g5 h.1)]

end
end Go.Proofs.Ythheldpjcndelaa
