/-
  HoldPlays: the walk: the code's hold and the document's, act by act.
-/
import Derived.Test.YthheldpjcndelaaHoldSim
import Derived.Test.YthheldpjcndelaaRef18b
namespace Go.Proofs.Ythheldpjcndelaa
open Go.RowKit
set_option linter.unusedVariables false
set_option linter.unusedSimpArgs false

theorem Rf.item_len (r : Rf) (f e i o : Int) : (r.item f e i o).1.items.length ≤ r.items.length + 1 := by
  have h1 := Rf.lift_len r f
  have h2 := Rf.reach_len (r.lift f) e
  unfold Rf.item
  repeat' split
  all_goals try (simp only; omega)
  unfold Rf.itemIn
  repeat' split
  all_goals (simp only [List.length_append, List.length_cons, List.length_nil]; omega)
theorem Rf.lead_len (r : Rf) (t u f : Int) : (r.lead t u f).1.items.length ≤ r.items.length + 1 := by
  have h1 := Rf.lift_len r f
  unfold Rf.lead Rf.turn2 Rf.turn1
  repeat' split
  all_goals (simp only; omega)
def Rf.act (r : Rf) (x : HAct) : Rf × Int := if x.lead = true then ((r.lead x.sent x.epoch x.floor).1, if (r.lead x.sent x.epoch x.floor).2 = true then 1 else 0) else r.item x.floor x.epoch x.pos x.all
theorem Rf.act_len (r : Rf) (x : HAct) : (r.act x).1.items.length ≤ r.items.length + 1 := by
  unfold Rf.act
  split
  · exact Rf.lead_len _ _ _ _
  · exact Rf.item_len _ _ _ _ _
theorem Rf.lift_life (r : Rf) (f : Int) : (r.lift f).life = r.life := by
  unfold Rf.lift Rf.forget
  split <;> rfl
theorem Rf.reach_life (r : Rf) (f : Int) : (r.reach f).life = r.life := by
  unfold Rf.reach Rf.forget
  split <;> rfl
theorem Rf.act_life (r : Rf) (x : HAct) : (r.act x).1.life = r.life := by
  unfold Rf.act
  split
  · unfold Rf.lead Rf.turn2 Rf.turn1
    have := Rf.lift_life r x.floor
    repeat' split
    all_goals first | rfl | exact this
  · unfold Rf.item
    have h1 := Rf.lift_life r x.floor
    have h2 := Rf.reach_life (r.lift x.floor) x.epoch
    repeat' split
    all_goals first | rfl | skip
    unfold Rf.itemIn
    repeat' split
    all_goals exact h2.trans h1
theorem sim_act {h : Hd} {r : Rf} (x : HAct) (s : Sim h r) : Sim (h.act x).1 (r.act x).1 ∧ (h.act x).2 = (r.act x).2 := by
  unfold Hd.act Rf.act
  split
  · obtain ⟨h1, h2⟩ := sim_lead (t := x.sent) (u := x.epoch) (f := x.floor) s
    exact ⟨h1, by simp only [h2]⟩
  · exact sim_item s

section
variable {W : World} {a : Option Addr} {n c : Nat} {f : Nat → HAct} {now lease inc : Int} {hb rb : Nat}

/-- What the document's hold may not touch: what was there, the code's hold, the act's copy. -/
def Apart (W : World) (hb x : Nat) (k : Nat) : Prop := k < W.heap.size ∨ k = hb ∨ k = x

theorem plays_out (sl : Sl W a n 6 (fun i => (f i).enc)) (ok : ∀ i, i < n → (f i).Ok) (hbW : W.heap.size ≤ hb) :
    ∀ (m : Nat) (i : Nat) (h : Hd) (r : Rf) (w : World), i + m = 80 → Sim h r → r.life = inc → r.items.length ≤ i → IsB w hb h.enc → IsR w (Apart W hb hb) rb r → Ext W w → law18_HoldPlays.l20 Z0 (Good W) (m + 1) inc a n c now lease (some ⟨hb, 0, none⟩) (some ⟨rb, 0, none⟩) i w
  | 0, i, h, r, w, hm, hs, hinc, hlen, bh, br, ke => by
    unfold law18_HoldPlays.l20 law18_HoldPlays.s67
    rw [pif_dec]
    split
    · rw [pif_dec, if_neg (by omega)]; exact ⟨rfl, ke⟩
    · exact ⟨rfl, ke⟩
  | m + 1, i, h, r, w, hm, hs, hinc, hlen, bh, br, ke => by
    unfold law18_HoldPlays.l20 law18_HoldPlays.s67
    rw [pif_dec]
    split
    · rename_i hi
      have hi : i < n := by omega
      rw [pif_dec, if_pos (by omega)]
      unfold law18_HoldPlays.s63
      refine ixS_Sl sl (by omega) (by omega) fun ad hc hl => ?_
      refine ldN_at (hc w ke) hl ?_
      rw [Int.toNat_natCast] at hc hl ⊢
      have hx := ok i hi
      generalize f i = x at hx hc hl
      refine newC_B fun w0 h0 k0 s0 => ?_
      refine stN_B h0 (by simp [HAct.enc]) (by simp [HAct.enc]) (by simp [HAct.enc, Value.oneCell']) fun w1 h1 k1 => ?_
      have xlt := bh.lt
      have rlt := br.lt
      have bh1 : IsB w1 hb h.enc := (bh.ext k0).keep k1 (by omega)
      have br1 : IsR w1 (Apart W hb w.heap.size) rb r := by
        have h : IsR w0 (Apart W hb w.heap.size) rb r := by
          obtain ⟨⟨a, c, g1, g2, g3⟩, g4⟩ := br
          refine ⟨⟨a, c, g1.ext k0, g2.ext k0, fun k hk => ⟨?_, (g3 k hk).2⟩⟩, ?_⟩
          · have := g2.lt hk
            rintro (h | h | h)
            · exact (g3 k hk).1 (.inl h)
            · exact (g3 k hk).1 (.inr (.inl h))
            · omega
          · rintro (h | h | h)
            · exact g4 (.inl h)
            · exact g4 (.inr (.inl h))
            · omega
        exact h.keep k1 fun k e => .inr (.inr e)
      have ke1 : Ext W w1 := (ke.trans k0).own ke.size k1
      have h1' : IsB w1 w.heap.size x.enc := by simpa [lay, HAct.enc] using h1
      have hlt : ∀ k, Apart W hb w.heap.size k → k < w1.heap.size := by
        have := ke.size; have := k0.size; have := k1.size; have := h1'.lt
        rintro k (h | h | h) <;> omega
      clear h1 h0
      generalize w.heap.size = xb at *
      simp only [add_mk, Nat.zero_add]
      obtain ⟨hs1, hans⟩ := sim_act x hs
      have hlen1 := Rf.act_len r x
      -- behind the document's act
      have rest : ∀ w2, IsR w2 (Apart W hb xb) rb (r.act x).1 → Keep (fun k => ¬ Apart W hb xb k) w1 w2 →
          law18_HoldPlays.s60 Z0 (Good W) (law18_HoldPlays.l20 Z0 (Good W) (m + 1)) inc a n c now lease (some ⟨hb, 0, none⟩) (some ⟨rb, 0, none⟩) i ⟨xb, 0, none⟩ (r.act x).2 w2 := fun w2 br2 k2 => by
        have bh2 : IsB w2 hb h.enc := bh1.keep k2 fun g => g (.inr (.inl rfl))
        have bx2 : IsB w2 xb x.enc := h1'.keep k2 fun g => g (.inr (.inr rfl))
        have ke2 : Ext W w2 := ke1.trans_new k2 fun k hk g => g (.inl hk)
        rw [← hans]
        have sinc := hs1.inc
        have hinc1 : (h.act x).1.inc = inc := by
          rw [← sinc, ← hinc]
          exact Rf.act_life r x
        generalize hh1 : h.act x = g at hs1 hans sinc hinc1 ⊢
        generalize hr1 : r.act x = q at hs1 br2 hans hlen1 sinc
        have hrl1 : q.1.life = inc := by rw [sinc, hinc1]
        unfold law18_HoldPlays.s60
        -- what the region keeps
        refine drawn_of (fun w' => IsR w' (Apart W hb xb) rb q.1 ∧ IsB w' xb x.enc ∧ (IsB w' hb h.enc ∨ IsB w' hb g.1.enc) ∧ Ext W w') ⟨br2.ext Keep.refl.drew, bx2.drew, .inl bh2.drew, ke2.drew⟩ ?_
        have br2 : IsR w2.drew _ _ _ := br2.ext Keep.refl.drew
        have bh2 := bh2.drew
        have bx2 := bx2.drew
        have ke2 := ke2.drew
        generalize w2.drew = w2 at br2 bh2 bx2 ke2 ⊢
        refine hN_of (cs := x.enc) rfl (fun w' h' => cellsAt_B h'.2.1 rfl) ?_
        refine law18_does.cal (does_F hx bh2 ?_)
        rw [hh1]
        intro w3 bh3 k3
        have br3 : IsR w3 (Apart W hb xb) rb q.1 := br2.keep k3 fun k e => .inr (.inl e)
        have hxb : xb ≠ hb := by rintro rfl; omega
        have bx3 : IsB w3 xb x.enc := bx2.keep k3 hxb
        have ke3 : Ext W w3 := ke2.own hbW k3
        have hS : ∀ {w'}, Ext w3 w' → (IsR w' (Apart W hb xb) rb q.1 ∧ IsB w' xb x.enc ∧ (IsB w' hb h.enc ∨ IsB w' hb g.1.enc) ∧ Ext W w') := fun k => ⟨br3.ext k, bx3.ext k, .inr (bh3.ext k), ke3.trans k⟩
        refine sAnd_of (hS Keep.refl) ?_
        rw [pif_bne, if_pos rfl]
        refine hold_Hold_Inc.cal (inc_F bh3 (sAnd_of (hS Keep.refl) ?_))
        rw [pif_bne, if_pos hinc1]
        simp only [nn_some, add_mk, Nat.zero_add]
        have hcell : ∀ (j : Nat) (v : Value), j < 5 → (∀ a n c, (q.1.enc a n c)[j]? = some v) → ∀ w', (IsR w' (Apart W hb xb) rb q.1 ∧ IsB w' xb x.enc ∧ (IsB w' hb h.enc ∨ IsB w' hb g.1.enc) ∧ Ext W w') → w'.cell? ⟨rb, j, none⟩ = some v := fun j v hj he w' h' => by
          obtain ⟨⟨⟨a, c, g1, _⟩, _⟩, _⟩ := h'
          exact (g1.cell j).trans (he _ _ _)
        refine hI_of (n := q.1.floor) (hcell 1 _ (by omega) fun _ _ _ => rfl) ?_
        refine hold_Hold_Floor.cal (floor_F bh3 (sAnd_of (hS Keep.refl) ?_))
        rw [pif_bne, if_pos hs1.floor.symm]
        refine hI_of (n := q.1.top) (hcell 2 _ (by omega) fun _ _ _ => rfl) ?_
        refine hold_Hold_Top.cal (top_F bh3 (sAnd_of (hS Keep.refl) ?_))
        rw [pif_bne, if_pos hs1.top.symm]
        refine hI_of (n := q.1.use) (hcell 3 _ (by omega) fun _ _ _ => rfl) ?_
        refine hold_Hold_Use.cal (use_F bh3 (sAnd_of (hS Keep.refl) ?_))
        rw [pif_bne, if_pos hs1.use.symm]
        refine hold_Hold_Live.cal (live_F bh3 (sAnd_of (hS Keep.refl) ?_))
        refine ref18_Hold_Live.cal (liveR_F br3 (sAnd_of (hS Keep.refl) ?_))
        rw [sim_live hs1]
        simp only [beq_self_eq_true, Bool.not_true]
        unfold law18_HoldPlays.s57
        rw [pif_false]
        unfold law18_HoldPlays.s52
        simp only [add_mk, Nat.zero_add]
        refine ldI_B bx3 rfl ?_
        refine hold_Hold_Count.cal (count_F bh3 fun w4 bh4 k4 => ?_)
        have br4 := br3.ext k4
        have bx4 := bx3.ext k4
        have ke4 := ke3.trans k4
        refine ldI_B bx4 rfl ?_
        refine ref18_Hold_Count.cal (countR_F br4 (by omega) ?_)
        refine ldI_B bx4 rfl ?_
        -- the end, whatever m and all
        have fin : ∀ (mm al : Int), g.1.cnt x.epoch = mm → g.1.off x.epoch = al → law18_HoldPlays.s48 Z0 (Good W) (law18_HoldPlays.l20 Z0 (Good W) (m + 1)) inc a n c now lease (some ⟨hb, 0, none⟩) (some ⟨rb, 0, none⟩) i ⟨xb, 0, none⟩ (g.1.cnt x.epoch) (g.1.off x.epoch) mm al w4 := fun mm al e1 e2 => by
          unfold law18_HoldPlays.s48
          rw [pif_bne, if_pos e1, pif_bne, if_pos e2]
          simp only [add_mk, Nat.zero_add]
          refine ldI_B bx4 rfl ?_
          refine hold_Hold_Full.cal (full_F bh4 fun w5 bh5 k5 => ?_)
          have hz : g.1.cnt x.epoch = 0 → g.1.off x.epoch = 0 := by
            have := hs1.fz
            have := hs1.tz
            unfold Hd.cnt Hd.off
            grind
          have hcnt := Hd.count_of x.epoch hs1.good
          have next : law18_HoldPlays.s29 Z0 (Good W) (law18_HoldPlays.l20 Z0 (Good W) (m + 1)) inc a n c now lease (some ⟨hb, 0, none⟩) (some ⟨rb, 0, none⟩) i w5 := by
            unfold law18_HoldPlays.s29
            rw [wrap_nat1 (by omega)]
            exact plays_out sl ok hbW m (i + 1) g.1 q.1 w5 (by omega) hs1 hrl1 (by omega) bh5 ((br4.ext k5).mono fun k hk hE => by rcases hE with h | h | h; exact .inl h; exact .inr (.inl h); exact .inr (.inl h)) (ke4.trans k5)
          rw [pif_dec]
          split
          · have : g.1.full x.epoch = (mm == al) := by
              unfold Hd.full
              rw [if_pos (by omega), ← e1, ← e2]
            rw [this]
            simp only [beq_self_eq_true, Bool.not_true, pif_false]
            exact next
          · have : g.1.full x.epoch = false := by
              unfold Hd.full
              rw [if_neg (by omega)]
            rw [this]
            exact next
        rw [pif_dec]
        split
        · rename_i hlt1
          refine fin 0 0 ?_ ?_
          · unfold Hd.cnt; rw [if_pos hlt1]
          · unfold Hd.off; rw [if_pos hlt1]
        · rename_i hge
          rw [hs1.cnt _ (by omega)]
          exact fin _ _ rfl rfl
      refine ldB_B h1' rfl ?_
      rw [pif_not, pif_bool]
      unfold Rf.act at rest
      split
      · rename_i hl
        simp only [if_pos hl] at rest
        refine ldI_B h1' rfl (ldI_B h1' rfl (ldI_B h1' rfl ?_))
        refine ref18_Hold_Lead.cal (leadR_F br1 hlt (by omega) fun w2 h2 k2 => ?_)
        have := rest w2 h2 k2
        rw [pif_bool]
        split
        · rename_i hh; rwa [if_pos hh] at this
        · rename_i hh; rwa [if_neg hh] at this
      · rename_i hl
        simp only [if_neg hl] at rest
        refine ldI_B h1' rfl (ldI_B h1' rfl (ldI_B h1' rfl (ldI_B h1' rfl ?_)))
        refine ref18_Hold_Item.cal (itemR_F br1 hlt (by omega) fun w2 h2 k2 => ?_)
        exact rest w2 h2 k2
    · exact ⟨rfl, ke⟩
end

theorem HoldPlays_walk : Walked 7 [3, 22, 3, 3] := by
  intro vs W hl ha
  match vs, hl with
  | [v0, v, v2, v3], _ =>
    obtain ⟨inc, rfl, _⟩ := (ha 0 3 v0 rfl rfl).int Try.underlying3
    obtain ⟨a, n, c, f, rfl, hn, sl, ok⟩ := acts_of Try.underlying22 (ha 1 22 v rfl rfl)
    obtain ⟨now, rfl, _⟩ := (ha 2 3 v2 rfl rfl).int Try.underlying3
    obtain ⟨lease, rfl, _⟩ := (ha 3 3 v3 rfl rfl).int Try.underlying3
    refine (law18_HoldPlays.vc0 (Good W) inc a n c now lease W ?_).mono fun e w' ⟨r, he, hr, hk⟩ => ⟨by rw [he, hr], hk.below⟩
    unfold law18_HoldPlays.F law18_HoldPlays.s76
    refine law18_awake.cal (awake_F fun w1 k1 => ?_)
    show cal _ _ _ _ _ w1
    refine hold_New.cal (new_F fun w2 h2 k2 => ?_)
    refine newC_B fun w3 h3 k3 s3 => ?_
    unfold law18_HoldPlays.s73
    have hlt := h2.lt
    refine exK_of (80 + 1) (plays_out sl ok k1.size 80 0 (Hd.zero inc) ⟨inc, 0, 0, 0, 0, []⟩ w3 rfl (sim_zero inc) rfl (Nat.le_refl _) (h2.ext k3) ⟨⟨none, 0, h3, Row.nil, fun k ⟨p, hp, _⟩ => by cases hp⟩, ?_⟩ (k1.trans (k2.trans k3)))
    have := k1.size; have := k2.size
    rintro (h | h | h) <;> omega
end Go.Proofs.Ythheldpjcndelaa
