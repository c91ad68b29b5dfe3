/-
  What a hold keeps, whatever acts come: the floor and the top, the counts, what is in use. Plain laws on nine numbers; no condition but that the hold is one that acts have made.
-/
import Derived.Test.YthheldpjcndelaaActs
namespace Go.Proofs.Ythheldpjcndelaa
open Go.RowKit
set_option linter.unusedVariables false
namespace Hd
theorem settle_eq (h : Hd) : h.settle = if 1 ≤ h.use ∧ (h.use = h.fe ∨ h.use = h.te) then h else { h with use := 0, said := 0 } := by
  unfold settle part isNone
  grind
theorem part_iff (h : Hd) (b : Nat) (e : Int) : isNone (h.part b e) = true ↔ ¬ (1 ≤ e ∧ (e = h.fe ∨ e = h.te)) := by
  unfold part isNone
  grind
structure Good (h : Hd) : Prop where
  f0 : 0 ≤ h.fe
  ft : h.fe ≤ h.te
  c0 : 0 ≤ h.fc
  co : h.fc ≤ h.fo
  t0 : 0 ≤ h.tc
  tt : h.tc ≤ h.tt
  said : 0 ≤ h.said
  use : h.use = 0 ∨ 1 ≤ h.use ∧ h.full h.use = true
theorem zero_good (n : Int) : (zero n).Good := by
  constructor <;> simp [zero]
theorem lift_good {h : Hd} {f : Int} (hg : h.Good) : (h.lift f).Good := by
  obtain ⟨f0, ft, c0, co, t0, tt, s, u⟩ := hg
  unfold full off cnt at u
  unfold lift
  simp only [settle_eq]
  constructor <;> (try unfold full off cnt) <;> grind
theorem reach_good {h : Hd} {e : Int} (hg : h.Good) : (h.reach e).Good := by
  obtain ⟨f0, ft, c0, co, t0, tt, s, u⟩ := hg
  unfold full off cnt at u
  unfold reach
  simp only [settle_eq]
  constructor <;> (try unfold full off cnt) <;> grind
theorem itemIn_good {h : Hd} {e i o : Int} (hg : h.Good) (hi : 0 ≤ i) (ho : i < o) : (h.itemIn e i o).1.Good := by
  obtain ⟨f0, ft, c0, co, t0, tt, s, u⟩ := hg
  unfold full off cnt at u
  unfold itemIn
  simp only [part_iff]
  unfold bump off cnt
  constructor <;> (try unfold full off cnt) <;> grind
theorem item_good {h : Hd} {f e i o : Int} (hg : h.Good) : (h.item f e i o).1.Good := by
  unfold item
  split; · exact hg
  split; · exact hg
  split; · exact hg
  split; · exact hg
  exact itemIn_good (reach_good (lift_good hg)) (by omega) (by omega)
theorem turn_good {h : Hd} {s u : Int} (hg : h.Good) (hs : 0 ≤ s) : (h.turn s u).Good := by
  obtain ⟨f0, ft, c0, co, t0, tt, sd, us⟩ := hg
  unfold full off cnt at us
  unfold turn full off cnt
  constructor <;> (try unfold full off cnt) <;> grind
theorem lead_good {h : Hd} {s u f : Int} (hg : h.Good) : (h.lead s u f).1.Good := by
  unfold lead
  split; · exact hg
  split; · exact hg
  split; · exact hg
  exact turn_good (lift_good hg) (by omega)
theorem act_good {h : Hd} {x : HAct} (hg : h.Good) : (h.act x).1.Good := by
  unfold act
  split
  · exact lead_good hg
  · exact item_good hg
/-! ### What an act turns -/
/-- Floor and top never fall; what was in use goes only when it is neither; what comes into use is a lead's. -/
structure Step (h g : Hd) (x : HAct) : Prop where
  fe : h.fe ≤ g.fe
  te : h.te ≤ g.te
  gone : g.use = 0 → h.use ≠ 0 → h.use ≠ g.fe ∧ h.use ≠ g.te
  came : g.use ≠ h.use → g.use ≠ 0 → x.lead = true ∧ x.epoch = g.use ∧ h.use ≤ g.use
  said : 0 < g.use → (g.use = h.use ∧ g.said = h.said) ∨ (x.lead = true ∧ x.epoch = g.use ∧ x.sent = g.said ∧ 0 ≤ x.sent)
structure Went (h g : Hd) : Prop where
  fe : h.fe ≤ g.fe
  te : h.te ≤ g.te
  use : (g.use = h.use ∧ g.said = h.said) ∨ (g.use = 0 ∧ g.said = 0 ∧ (h.use ≠ 0 → h.use ≠ g.fe ∧ h.use < g.te))
theorem use_in {h : Hd} (hg : h.Good) : h.use = 0 ∨ 1 ≤ h.use ∧ (h.use = h.fe ∨ h.use = h.te) := by
  have us := hg.use
  unfold full off cnt at us
  grind
theorem lift_went {h : Hd} {f : Int} (hg : h.Good) : Went h (h.lift f) ∧ ((h.lift f).use = h.use ∧ (h.lift f).said = h.said ∨ (h.lift f).use = 0 ∧ (h.use ≠ 0 → h.use < (h.lift f).fe)) := by
  have us := use_in hg
  obtain ⟨f0, ft, _, _, _, _, _, _⟩ := hg
  unfold lift
  simp only [settle_eq]
  constructor
  · constructor <;> grind
  · grind
theorem reach_went {h : Hd} {e : Int} (hg : h.Good) : Went h (h.reach e) ∧ (h.reach e).fe = h.fe := by
  have us := use_in hg
  obtain ⟨f0, ft, _, _, _, _, _, _⟩ := hg
  unfold reach
  simp only [settle_eq]
  constructor
  · constructor <;> grind
  · grind
theorem itemIn_went {h : Hd} {e i o : Int} : (h.itemIn e i o).1.fe = h.fe ∧ (h.itemIn e i o).1.te = h.te ∧ (h.itemIn e i o).1.use = h.use ∧ (h.itemIn e i o).1.said = h.said := by
  unfold itemIn bump
  grind
theorem turn_went {h : Hd} {s u : Int} (hg : h.Good) : (h.turn s u).fe = h.fe ∧ (h.turn s u).te = h.te ∧ (h.turn s u = h ∨ (h.turn s u).use = u ∧ 1 ≤ u ∧ h.fe ≤ u ∧ h.use ≤ u ∧ ((h.turn s u).said = s ∨ u = h.use ∧ (h.turn s u).said = h.said)) := by
  obtain ⟨f0, ft, c0, co, t0, tt, sd, _⟩ := hg
  have key : h.full u = true → 1 ≤ u ∧ h.fe ≤ u := by unfold full off cnt; grind
  unfold turn
  grind
theorem item_step {h : Hd} {f e i o : Int} (hg : h.Good) : Went h (h.item f e i o).1 := by
  unfold item
  split; · exact ⟨Int.le_refl _, Int.le_refl _, .inl ⟨rfl, rfl⟩⟩
  split; · exact ⟨Int.le_refl _, Int.le_refl _, .inl ⟨rfl, rfl⟩⟩
  split; · exact ⟨Int.le_refl _, Int.le_refl _, .inl ⟨rfl, rfl⟩⟩
  split; · exact ⟨Int.le_refl _, Int.le_refl _, .inl ⟨rfl, rfl⟩⟩
  obtain ⟨⟨a1, a2, a3⟩, a4⟩ := lift_went (f := f) hg
  obtain ⟨⟨b1, b2, b3⟩, b4⟩ := reach_went (e := e) (lift_good (f := f) hg)
  obtain ⟨c1, c2, c3, c4⟩ := itemIn_went (h := (h.lift f).reach e) (e := e) (i := i) (o := o)
  have g1 := (lift_good (f := f) hg).ft
  have g2 := (reach_good (e := e) (lift_good (f := f) hg)).ft
  constructor <;> grind
theorem act_step {h : Hd} (x : HAct) (hg : h.Good) : Step h (h.act x).1 x := by
  unfold act
  split
  · rename_i hl
    unfold lead
    split; · exact ⟨Int.le_refl _, Int.le_refl _, fun a b => absurd a b, fun a => absurd rfl a, fun _ => .inl ⟨rfl, rfl⟩⟩
    split; · exact ⟨Int.le_refl _, Int.le_refl _, fun a b => absurd a b, fun a => absurd rfl a, fun _ => .inl ⟨rfl, rfl⟩⟩
    split; · exact ⟨Int.le_refl _, Int.le_refl _, fun a b => absurd a b, fun a => absurd rfl a, fun _ => .inl ⟨rfl, rfl⟩⟩
    obtain ⟨⟨a1, a2, a3⟩, a4⟩ := lift_went (f := x.floor) hg
    obtain ⟨b1, b2, b3⟩ := turn_went (s := x.sent) (u := x.epoch) (lift_good (f := x.floor) hg)
    have g1 := (lift_good (f := x.floor) hg).ft
    unfold leadIn
    constructor <;> grind
  · have g0 := item_good (f := x.floor) (e := x.epoch) (i := x.pos) (o := x.all) hg
    obtain ⟨a1, a2, a3⟩ := item_step (f := x.floor) (e := x.epoch) (i := x.pos) (o := x.all) hg
    have g1 := g0.ft
    constructor <;> grind
theorem count_of {h : Hd} (e : Int) (hg : h.Good) : h.cnt e ≤ h.off e ∧ 0 ≤ h.cnt e ∧ (0 < h.cnt e → e = h.fe ∨ e = h.te) := by
  obtain ⟨f0, ft, c0, co, t0, tt, sd, us⟩ := hg
  unfold cnt off
  grind
end Hd
end Go.Proofs.Ythheldpjcndelaa
