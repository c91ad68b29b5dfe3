/-
  SenseWhole and SenseParses: the walks of the laws. No condition.
-/
import Derived.Test.YtllgjjldnnmjkaaDoorArgE
import Derived.Test.YtllgjjldnnmjkaaDoorRead1
import Derived.Test.YtllgjjldnnmjkaaDoorCodeLaw2
set_option linter.unusedVariables false
set_option linter.unusedSimpArgs false
set_option maxRecDepth 100000
namespace Go.Proofs.YtllgjjldnnmjkaaDoor
open Go.RowKit
section
variable {Z : List PanicEntry → PT} {Q : Bool → PT} {W w : World} {h : List UInt8} {s : ByteArray}
theorem swh_F (hv : Places w) (hl : h.length = 13) (hq : ∀ w', Ext w w' → Q true w') : law07_SenseWhole.F Z Q s (encH h) w := by
  unfold law07_SenseWhole.F
  refine (Sep.start (fun _ => False) w).new fun w1 hb h1 k1 => ?_
  refine awake_cal (hv.ext h1.kept) fun w2 k2 => ?_
  have h2 := h1.ext k2
  rw [pif_not, pif_true]
  refine read_cal fun w3 o r3 => ?_
  have h3 := h2.ext r3.kept
  refine h3.ldN 0 rfl (sub13 hl) (len13 hl) (says_cal (hv.ext h3.kept) hl r3.en (snRead_ok s) fun w4 k4 => ?_)
  have h4 := h3.ext k4
  by_cases e : (snRead s).2.1 = 0
  · obtain ⟨_, _, _, ha, hc⟩ := snRead_yes e
    obtain ⟨g1, g2, g3⟩ := snSays_some (h := h) (by rw [hc]; decide) ha
    rw [e, g1, show (true == ((0 : Int) == 0)) = true from rfl, pif_true, pif_dec, if_pos (show (snSays (snRead s).1 h).1 ≥ 0 from g2), decide_eq_true g3]
    exact hq w4 h4.kept
  · rw [snRead_no e, snSays_nil]
    rw [show (false == ((snRead s).2.1 == 0)) = true by rw [beq_eq_false_iff_ne.2 e]; rfl, pif_true]
    exact hq w4 h4.kept
theorem par_loop {o : Sl3} {l : List En} {p : Option Addr} {pn pc : Nat} {e : Int} (hr : EnO w o l) (hq : Q true w) (he : e ≠ 0 ∨ (o.n = pn ∧ l.countP (·.default) = 1)) :
    ∀ (m j n : Nat), l.length = j + m → n + (l.drop j).countP (·.default) = l.countP (·.default) →
    law07_SenseParses.l22 Z Q (m + 1) o.a o.n o.c e p pn pc n j w := by
  have hmax := hr.max
  have hn := hr.1
  have hcl := List.countP_le_length (p := fun x : En => x.default) (l := l)
  intro m
  induction m with
  | zero =>
    intro j n hm hc
    unfold law07_SenseParses.l22 law07_SenseParses.s25
    rw [pif_dec, if_neg (by omega)]
    unfold law07_SenseParses.s12
    rw [List.drop_eq_nil_of_le (by omega)] at hc
    simp at hc
    rw [pif_bne]
    split
    · rename_i e0
      obtain ⟨g1, g2⟩ := he.resolve_left (fun g => g (by simpa using e0))
      rw [pif_beq, if_pos (by omega), show ((n : Int) == 1) = true by rw [beq_iff_eq]; omega]
      exact hq
    · exact hq
  | succ m ih =>
    intro j n hm hc
    have hx := List.getElem?_eq_getElem (show j < l.length by omega)
    have hd := List.drop_eq_getElem_cons (show j < l.length by omega)
    unfold law07_SenseParses.l22 law07_SenseParses.s25
    rw [pif_dec, if_pos (by omega)]
    rw [hd, List.countP_cons] at hc
    refine ixS_Ro hr hx fun ad hcell => ?_
    generalize l[j] = x at hx hd hc hcell
    refine ldB_at hcell (n := x.default) rfl ?_
    rw [pif_bool]
    split
    · rename_i e
      rw [if_pos e] at hc
      rw [wrap_nat1 (by omega), wrap_nat1 (by omega)]
      exact ih (j + 1) (n + 1) (by omega) (by omega)
    · rename_i e
      rw [if_neg e] at hc
      rw [wrap_nat1 (by omega)]
      exact ih (j + 1) n (by omega) (by omega)
theorem spa_F (hv : Places w) (hq : ∀ w', Ext w w' → Q true w') : law07_SenseParses.F Z Q s w := by
  unfold law07_SenseParses.F law07_SenseParses.s36
  refine awake_cal hv fun w2 k2 => ?_
  rw [pif_not, pif_true]
  refine read_cal fun w3 o r3 => ?_
  refine parse_cal fun s4 w4 r4 k4 => ?_
  have k := (k2.trans r3.kept).trans k4
  rw [pif_bne]
  split
  · rename_i e
    unfold law07_SenseParses.s33
    refine exK_of ((snRead s).1.length + 1) (par_loop (r3.en.ext k4) (hq w4 k) ?_ (snRead s).1.length 0 0 (by omega) (by simp))
    by_cases e2 : (snRead s).2.1 = 0
    · obtain ⟨_, _, h3, _, h5⟩ := snRead_yes e2
      exact .inr ⟨by rw [r3.en.1, h3, r4.len], h5⟩
    · exact .inl e2
  · rename_i e
    have : (snRead s).2 = ((parseS s).2.1, (parseS s).2.2) := by unfold snRead; rw [if_pos e]
    rw [this]
    simp only
    rw [pif_beq, if_pos rfl, beq_self_eq_true]
    exact hq w4 k
end
theorem SenseWhole_walk : WalkedL (Rows.senseWholeRow.laid) 7 [9, 37] := by
  intro vs W hl ha hL
  match vs, hl with
  | [v0, v1], _ =>
    obtain ⟨s, rfl, hs⟩ := (ha 0 _ v0 rfl rfl).str Tryd.underlying9
    obtain ⟨h, rfl, lh⟩ := head_of (ha 1 _ v1 rfl rfl)
    have g1 := places_of hL (by simp [Rows.senseWholeRow]; rfl)
    refine (law07_SenseWhole.vc0 (Good W) s (encH h) W (swh_F g1 lh fun w' k => ⟨rfl, k⟩)).mono fun e w' ⟨r, he, hr, hk⟩ => ⟨by rw [he, hr], hk.below⟩
theorem SenseParses_walk : WalkedL (Rows.senseParsesRow.laid) 8 [9] := by
  intro vs W hl ha hL
  match vs, hl with
  | [v0], _ =>
    obtain ⟨s, rfl, hs⟩ := (ha 0 _ v0 rfl rfl).str Tryd.underlying9
    have g1 := places_of hL (by simp [Rows.senseParsesRow]; rfl)
    refine (law07_SenseParses.vc0 (Good W) s W (spa_F g1 fun w' k => ⟨rfl, k⟩)).mono fun e w' ⟨r, he, hr, hk⟩ => ⟨by rw [he, hr], hk.below⟩
end Go.Proofs.YtllgjjldnnmjkaaDoor
