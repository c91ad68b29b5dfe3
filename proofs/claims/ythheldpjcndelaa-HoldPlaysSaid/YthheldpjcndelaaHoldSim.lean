/-
  The hold and the document's answer for it go along with each other. Plain laws.
-/
import Derived.Test.YthheldpjcndelaaRef18
namespace Go.Proofs.Ythheldpjcndelaa
open Go.RowKit
set_option linter.unusedVariables false
set_option linter.unusedSimpArgs false

namespace Rf
theorem count_nil {e : Int} : ∀ {l : List (Int × Int)} {n o : Int}, (∀ x ∈ l, x.1 ≠ e) → count e l n o = (n, o)
  | [], n, o, _ => rfl
  | x :: l, n, o, h => by
    unfold count
    rw [if_neg (h x (by simp))]
    exact count_nil fun y hy => h y (by simp [hy])
theorem count_filter {e : Int} {p : Int × Int → Bool} (hp : ∀ x : Int × Int, x.1 = e → p x = true) : ∀ {l : List (Int × Int)} {n o : Int}, count e (l.filter p) n o = count e l n o
  | [], n, o => rfl
  | x :: l, n, o => by
    by_cases hx : p x = true
    · rw [List.filter_cons_of_pos hx]
      unfold count
      split
      · exact count_filter hp
      · exact count_filter hp
    · rw [List.filter_cons_of_neg hx]
      conv => rhs; unfold count
      rw [if_neg (fun h => hx (hp x h))]
      exact count_filter hp
theorem count_app {e : Int} {x : Int × Int} : ∀ {l : List (Int × Int)} {n o : Int}, count e (l ++ [x]) n o = if x.1 = e then ((count e l n o).1 + 1, x.2) else count e l n o
  | [], n, o => by simp [count]
  | y :: l, n, o => by
    simp only [List.cons_append, count]
    split
    · exact count_app
    · exact count_app
end Rf

/-- They go along. -/
structure Sim (h : Hd) (r : Rf) : Prop where
  inc : r.life = h.inc
  floor : r.floor = h.fe
  top : r.top = h.te
  use : r.use = h.use
  said : r.said = h.said
  mem : ∀ x ∈ r.items, 1 ≤ x.1 ∧ (x.1 = h.fe ∨ x.1 = h.te)
  cnt : ∀ e, 1 ≤ e → Rf.count e r.items 0 0 = (h.cnt e, h.off e)
  fz : h.fc = 0 → h.fo = 0
  tz : h.tc = 0 → h.tt = 0
  uz : h.use = 0 → h.said = 0
  good : h.Good
theorem Sim.none {h : Hd} {r : Rf} (s : Sim h r) {e : Int} (h1 : e ≠ h.fe) (h2 : e ≠ h.te) (o n : Int) : Rf.count e r.items n o = (n, o) :=
  Rf.count_nil fun x hx g => by rcases (s.mem x hx).2 with g' | g' <;> omega
theorem sim_zero (n : Int) : Sim (Hd.zero n) ⟨n, 0, 0, 0, 0, []⟩ := by
  refine ⟨rfl, rfl, rfl, rfl, rfl, by simp, fun e he => ?_, fun _ => rfl, fun _ => rfl, fun _ => rfl, Hd.zero_good n⟩
  unfold Rf.count Hd.cnt Hd.off Hd.zero
  grind
/-- Behind a turn of the floor or the top. -/
theorem sim_forget {h g : Hd} {r : Rf} (s : Sim h r) (hg : g.Good) (hi : g.inc = h.inc)
    (hu : g.use = if h.use ≠ g.fe ∧ h.use ≠ g.te then 0 else h.use) (hs : g.said = if h.use ≠ g.fe ∧ h.use ≠ g.te then 0 else h.said)
    (hc : ∀ e, 1 ≤ e → (e = g.fe ∨ e = g.te) → (e = h.fe ∨ e = h.te) → g.cnt e = h.cnt e ∧ g.off e = h.off e)
    (hz : ∀ e, 1 ≤ e → ((e = g.fe ∨ e = g.te) → ¬ (e = h.fe ∨ e = h.te)) → g.cnt e = 0 ∧ g.off e = 0)
    (hfz : g.fc = 0 → g.fo = 0) (htz : g.tc = 0 → g.tt = 0) : Sim g (Rf.forget { r with floor := g.fe, top := g.te }) := by
  have hsu := s.use
  have hss := s.said
  refine ⟨by rw [hi]; exact s.inc, rfl, rfl, ?_, ?_, ?_, ?_, hfz, htz, ?_, hg⟩
  · unfold Rf.forget; simp only [hsu]; exact hu.symm
  · unfold Rf.forget; simp only [hsu, hss]; exact hs.symm
  · intro x hx
    unfold Rf.forget at hx
    simp only [List.mem_filter, Bool.or_eq_true, decide_eq_true_eq] at hx
    exact ⟨(s.mem x hx.1).1, hx.2⟩
  · intro e he
    unfold Rf.forget
    simp only
    by_cases h1 : e = g.fe ∨ e = g.te
    · rw [Rf.count_filter (by intro x hx; simp only [Bool.or_eq_true, decide_eq_true_eq]; omega)]
      by_cases h2 : e = h.fe ∨ e = h.te
      · rw [s.cnt e he]
        obtain ⟨a, b⟩ := hc e he h1 h2
        rw [a, b]
      · rw [s.none (by omega) (by omega)]
        obtain ⟨a, b⟩ := hz e he (fun _ => h2)
        rw [a, b]
    · rw [Rf.count_nil]
      · obtain ⟨a, b⟩ := hz e he (fun h => absurd h h1)
        rw [a, b]
      · intro x hx g'
        simp only [List.mem_filter, Bool.or_eq_true, decide_eq_true_eq] at hx
        omega
  · intro h0
    have := s.uz
    rw [hs]
    rw [hu] at h0
    split
    · rfl
    · rw [if_neg ‹_›] at h0; exact this h0
theorem sim_lift {h : Hd} {r : Rf} {f : Int} (s : Sim h r) : Sim (h.lift f) (r.lift f) := by
  unfold Rf.lift
  rw [s.floor, s.top]
  split
  · rename_i hf
    have hg := s.good
    have hg1 := Hd.lift_good (f := f) hg
    have hfe : (h.lift f).fe = f := by unfold Hd.lift; simp only [Hd.settle_eq]; grind
    have hte : (h.lift f).te = if f > h.te then f else h.te := by unfold Hd.lift; simp only [Hd.settle_eq]; grind
    have hui := Hd.use_in hg
    have := sim_forget (g := h.lift f) s hg1 (by unfold Hd.lift; simp only [Hd.settle_eq]; grind) ?_ ?_ ?_ ?_ ?_ ?_
    · rwa [hfe, hte] at this
    · have hu0 := s.uz; unfold Hd.lift; simp only [Hd.settle_eq]; have := hg.f0; grind
    · have hu0 := s.uz; unfold Hd.lift; simp only [Hd.settle_eq]; have := hg.f0; grind
    · intro e he; unfold Hd.lift; simp only [Hd.settle_eq]; unfold Hd.cnt Hd.off; have := hg.ft; grind
    · intro e he; unfold Hd.lift; simp only [Hd.settle_eq]; unfold Hd.cnt Hd.off; have := hg.ft; grind
    · have := s.fz; have := s.tz; unfold Hd.lift; simp only [Hd.settle_eq]; grind
    · have := s.fz; have := s.tz; unfold Hd.lift; simp only [Hd.settle_eq]; grind
  · rename_i hf
    have : h.lift f = h := by unfold Hd.lift; rw [if_pos (by omega)]
    rw [this]; exact s
theorem sim_reach {h : Hd} {r : Rf} {f : Int} (s : Sim h r) : Sim (h.reach f) (r.reach f) := by
  unfold Rf.reach
  rw [s.top]
  split
  · rename_i hf
    have hg := s.good
    have hg1 := Hd.reach_good (e := f) hg
    have hfe : (h.reach f).fe = h.fe := by unfold Hd.reach; simp only [Hd.settle_eq]; grind
    have hte : (h.reach f).te = f := by unfold Hd.reach; simp only [Hd.settle_eq]; grind
    have hui := Hd.use_in hg
    have := sim_forget (g := h.reach f) s hg1 (by unfold Hd.reach; simp only [Hd.settle_eq]; grind) ?_ ?_ ?_ ?_ ?_ ?_
    · rw [hfe, hte, ← s.floor] at this; exact this
    · have hu0 := s.uz; unfold Hd.reach; simp only [Hd.settle_eq]; have := hg.f0; grind
    · have hu0 := s.uz; unfold Hd.reach; simp only [Hd.settle_eq]; have := hg.f0; grind
    · intro e he; unfold Hd.reach; simp only [Hd.settle_eq]; unfold Hd.cnt Hd.off; have := hg.ft; grind
    · intro e he; unfold Hd.reach; simp only [Hd.settle_eq]; unfold Hd.cnt Hd.off; have := hg.ft; grind
    · have := s.fz; have := s.tz; unfold Hd.reach; simp only [Hd.settle_eq]; grind
    · have := s.fz; have := s.tz; unfold Hd.reach; simp only [Hd.settle_eq]; grind
  · rename_i hf
    have : h.reach f = h := by unfold Hd.reach; rw [if_neg (by omega)]
    rw [this]; exact s
theorem sim_itemIn {h : Hd} {r : Rf} {e i o : Int} (s : Sim h r) (he : 1 ≤ e) (hi : 0 ≤ i) (ho : i < o) : Sim (h.itemIn e i o).1 (r.itemIn e i o).1 ∧ (h.itemIn e i o).2 = (r.itemIn e i o).2 := by
  unfold Rf.itemIn
  have hg1 := Hd.itemIn_good (e := e) s.good hi ho
  have hfl := s.floor
  have htp := s.top
  rw [s.cnt e he, hfl, htp]
  unfold Hd.itemIn at hg1 ⊢
  simp only [Hd.part_iff] at hg1 ⊢
  by_cases h1 : 1 ≤ e ∧ (e = h.fe ∨ e = h.te)
  · rw [if_neg (not_not_intro h1)] at hg1 ⊢
    by_cases h2 : h.cnt e > 0 ∧ h.off e ≠ o
    · rw [if_pos h2, if_pos (.inr (.inl h2))]; exact ⟨s, rfl⟩
    · rw [if_neg h2] at hg1 ⊢
      by_cases h3 : i > h.cnt e
      · rw [if_pos h3, if_pos (.inr (.inr h3))]; exact ⟨s, rfl⟩
      · rw [if_neg h3] at hg1 ⊢
        rw [if_neg (show ¬ ((e ≠ h.fe ∧ e ≠ h.te) ∨ (h.cnt e > 0 ∧ h.off e ≠ o) ∨ i > h.cnt e) by rintro (g | g | g); omega; exact h2 g; exact h3 g)]
        by_cases h4 : i < h.cnt e
        · rw [if_pos h4, if_pos h4]; exact ⟨s, rfl⟩
        · rw [if_neg h4] at hg1 ⊢
          rw [if_neg h4]
          refine ⟨⟨?_, ?_, ?_, ?_, ?_, ?_, ?_, ?_, ?_, ?_, hg1⟩, rfl⟩
          · have := s.inc; unfold Hd.bump; grind
          · unfold Hd.bump; grind
          · unfold Hd.bump; grind
          · have := s.use; unfold Hd.bump; grind
          · have := s.said; unfold Hd.bump; grind
          · have e1 : (h.bump e o).fe = h.fe ∧ (h.bump e o).te = h.te := by unfold Hd.bump; grind
            rw [e1.1, e1.2]
            intro x hx
            rcases List.mem_append.1 hx with hx | hx
            · exact s.mem x hx
            · simp at hx; subst hx; exact h1
          · intro e' he'
            rw [Rf.count_app, s.cnt e' he']
            unfold Hd.bump Hd.cnt Hd.off
            grind
          · have := s.fz; have := s.good.c0; unfold Hd.bump; grind
          · have := s.tz; have := s.good.t0; unfold Hd.bump; grind
          · have := s.uz; unfold Hd.bump; grind
  · rw [if_pos h1, if_pos (by omega)]; exact ⟨s, rfl⟩
theorem sim_item {h : Hd} {r : Rf} {f e i o : Int} (s : Sim h r) : Sim (h.item f e i o).1 (r.item f e i o).1 ∧ (h.item f e i o).2 = (r.item f e i o).2 := by
  unfold Hd.item Rf.item
  split; · exact ⟨s, rfl⟩
  split; · exact ⟨s, rfl⟩
  split; · exact ⟨s, rfl⟩
  split; · exact ⟨s, rfl⟩
  exact sim_itemIn (sim_reach (sim_lift s)) (by omega) (by omega) (by omega)
theorem sim_full {h : Hd} {r : Rf} (s : Sim h r) {e : Int} (he : 0 ≤ e) : r.full e = h.full e := by
  have hg := s.good
  unfold Rf.full Hd.full
  by_cases h0 : e = 0
  · subst h0
    rw [Rf.count_nil (fun x hx g => by have := s.mem x hx; omega)]
    unfold Hd.off
    simp
  · rw [s.cnt e (by omega)]
    have hc := Hd.count_of e hg
    have : h.cnt e = 0 → h.off e = 0 := by
      have := s.fz
      have := s.tz
      unfold Hd.cnt Hd.off
      grind
    simp only
    grind
theorem sim_lead {h : Hd} {r : Rf} {t u f : Int} (s : Sim h r) : Sim (h.lead t u f).1 (r.lead t u f).1 ∧ (h.lead t u f).2 = (r.lead t u f).2 := by
  unfold Hd.lead Rf.lead
  split; · exact ⟨s, rfl⟩
  split; · exact ⟨s, rfl⟩
  split; · exact ⟨s, rfl⟩
  rename_i ht hu hf
  have s1 := sim_lift (f := f) s
  generalize h.lift f = h1 at s1
  generalize r.lift f = r1 at s1
  have hfull := sim_full s1 (e := u) (by omega)
  have hgt := Hd.turn_good (s := t) (u := u) s1.good (by omega)
  -- both turns of the document's are the one turn
  have key : (r1.turn1 t u).turn2 t u = { r1 with use := (h1.turn t u).use, said := (h1.turn t u).said } := by
    have f1 : ∀ q : Rf, q.items = r1.items → q.full u = h1.full u := fun q hq => by rw [← hfull]; unfold Rf.full; rw [hq]
    have hsaid := s1.good.said
    have hux := s1.uz
    have e1 := s1.use
    have e2 := s1.said
    have t1 : r1.turn1 t u = if h1.full u = true ∧ u = h1.use ∧ t > h1.said then { r1 with said := t } else r1 := by
      unfold Rf.turn1; rw [hfull, e1, e2]
    have t2 : ∀ q : Rf, q.items = r1.items → q.turn2 t u = if h1.full u = true ∧ u > q.use then { q with use := u, said := t } else q := fun q hq => by
      unfold Rf.turn2; rw [f1 q hq]
    rw [t1, t2 _ (by split <;> rfl)]
    unfold Hd.turn
    obtain ⟨a1, a2, a3, a4, a5, a6⟩ := r1
    simp only at e1 e2 ⊢
    subst e1 e2
    by_cases g1 : h1.full u = true
    · by_cases g2 : u = h1.use
      · by_cases g3 : t > h1.said
        · simp only [g1, true_and, if_pos (And.intro g2 g3)]
          grind
        · simp only [g1, true_and, if_neg (fun h : u = h1.use ∧ t > h1.said => g3 h.2)]
          grind
      · simp only [g1, true_and, if_neg (fun h : u = h1.use ∧ t > h1.said => g2 h.1)]
        grind
    · simp only [g1, false_and, if_false]
      grind
  unfold Hd.leadIn
  rw [key]
  refine ⟨?_, rfl⟩
  have ew := Hd.turn_went (s := t) (u := u) s1.good
  have ei : (h1.turn t u).inc = h1.inc ∧ (h1.turn t u).fc = h1.fc ∧ (h1.turn t u).fo = h1.fo ∧ (h1.turn t u).tc = h1.tc ∧ (h1.turn t u).tt = h1.tt := by unfold Hd.turn; grind
  obtain ⟨i1, i2, i3, i4, i5⟩ := ei
  obtain ⟨w1, w2, w3⟩ := ew
  refine ⟨s1.inc.trans i1.symm, s1.floor.trans w1.symm, s1.top.trans w2.symm, rfl, rfl, ?_, ?_, ?_, ?_, ?_, hgt⟩
  · rw [w1, w2]; exact s1.mem
  · intro e he
    have := s1.cnt e he
    show Rf.count e r1.items 0 0 = _
    rw [this]
    unfold Hd.cnt Hd.off
    rw [i2, i3, i4, i5, w1, w2]
  · rw [i2, i3]; exact s1.fz
  · rw [i4, i5]; exact s1.tz
  · rcases w3 with w3 | w3
    · rw [w3]; exact s1.uz
    · intro h0
      exfalso
      have h0 : (h1.turn t u).use = 0 := h0
      omega
theorem sim_live {h : Hd} {r : Rf} (s : Sim h r) (now lease : Int) : r.live now lease = h.live now lease := by
  unfold Rf.live Hd.live
  rw [s.use, s.said]
  have : (if 1099511627776 < (if 0 > now then 0 else now) then 1099511627776 else (if 0 > now then 0 else now)) = (if (if 1099511627776 < now then 1099511627776 else now) > 0 then (if 1099511627776 < now then 1099511627776 else now) else 0) := by grind
  rw [this]
end Go.Proofs.Ythheldpjcndelaa
