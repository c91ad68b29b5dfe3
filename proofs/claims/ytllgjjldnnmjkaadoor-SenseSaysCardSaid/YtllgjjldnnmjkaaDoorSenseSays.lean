/-
  SenseSays: the plain law and the walk. No condition.
-/
import Derived.Test.YtllgjjldnnmjkaaDoorArgE
import Derived.Test.YtllgjjldnnmjkaaDoorSay2
import Derived.Test.YtllgjjldnnmjkaaDoorCodeLaw2
set_option linter.unusedVariables false
set_option linter.unusedSimpArgs false
set_option maxRecDepth 100000
namespace Go.Proofs.YtllgjjldnnmjkaaDoor
open Go.RowKit
section
variable {l : List En} {h : List UInt8}
/-- The best one so far: none ahead of place i that is no default one is greater, nor as great and ahead of it. -/
def BestTo (l : List En) (h : List UInt8) (i : Nat) (b : Int) : Prop :=
  (b < 0 → ∀ k x, k < i → l[k]? = some x → x.default = false → snApp x h = false) ∧
  (0 ≤ b → (enAt l b).default = false ∧ ∀ k x, k < i → l[k]? = some x → x.default = false → snApp x h = true → x.prio ≤ (enAt l b).prio ∧ (x.prio = (enAt l b).prio → b ≤ (k : Int)))
theorem best_to : ∀ (r : List En) (i : Nat) (b : Int), l.drop i = r → b < i → BestTo l h i b → BestTo l h l.length (bestS l h r i b)
  | [], i, b, hl, hbi, hB => by
    have hi : l.length ≤ i := by
      have := congrArg List.length hl
      simp at this; omega
    unfold bestS
    exact ⟨fun h1 k x hk => hB.1 h1 k x (by omega), fun h1 => ⟨(hB.2 h1).1, fun k x hk => (hB.2 h1).2 k x (by omega)⟩⟩
  | x :: r, i, b, hl, hbi, hB => by
    obtain ⟨hx, hl'⟩ := drop_at hl
    have ei := enAt_nat hx
    unfold bestS
    split
    · rename_i e
      obtain ⟨e1, e2, e3⟩ := e
      refine best_to r (i + 1) i hl' (by omega) ⟨fun g => by omega, fun _ => ⟨by rw [ei]; exact e1, fun k y hk hy hd ha => ?_⟩⟩
      rw [ei]
      by_cases hki : k = i
      · subst hki
        rw [hx] at hy; cases hy
        exact ⟨Int.le_refl _, fun _ => by omega⟩
      · rcases e3 with e3 | e3
        · have := hB.1 e3 k y (by omega) hy hd
          rw [this] at ha; cases ha
        · by_cases h0 : b < 0
          · have := hB.1 h0 k y (by omega) hy hd
            rw [this] at ha; cases ha
          · obtain ⟨g1, g2⟩ := (hB.2 (by omega)).2 k y (by omega) hy hd ha
            exact ⟨by omega, fun g => by omega⟩
    · rename_i e
      refine best_to r (i + 1) b hl' (by omega) ⟨fun g k y hk hy hd => ?_, fun g => ⟨(hB.2 g).1, fun k y hk hy hd ha => ?_⟩⟩
      · by_cases hki : k = i
        · subst hki
          rw [hx] at hy; cases hy
          cases ha : snApp x h with
          | false => rfl
          | true => exact absurd ⟨hd, ha, .inl g⟩ e
        · exact hB.1 g k y (by omega) hy hd
      · by_cases hki : k = i
        · subst hki
          rw [hx] at hy; cases hy
          have : ¬ x.prio > (enAt l b).prio := fun g' => e ⟨hd, ha, .inr g'⟩
          exact ⟨by omega, fun _ => by omega⟩
        · exact (hB.2 g).2 k y (by omega) hy hd ha
/-- What is said is the first of the greatest. -/
theorem which_best {k : Nat} {x : En} (h0 : 0 ≤ snWhich l h) (hx : l[k]? = some x) (hd : x.default = false) (ha : snApp x h = true) :
    (enAt l (snWhich l h)).default = false ∧ x.prio ≤ (enAt l (snWhich l h)).prio ∧ (x.prio = (enAt l (snWhich l h)).prio → snWhich l h ≤ (k : Int)) := by
  have hk := (List.getElem?_eq_some_iff.1 hx).1
  have hB := best_to (l := l) (h := h) l 0 (-1) rfl (by omega) ⟨fun _ k x hk => by omega, fun g => by omega⟩
  rw [snWhich_eq]
  unfold rfWhich
  by_cases hb : bestS l h l 0 (-1) < 0
  · have := hB.1 hb k x hk hx hd
    rw [this] at ha; cases ha
  · rw [dflS_pos _ _ _ (by omega)]
    obtain ⟨g1, g2⟩ := hB.2 (by omega)
    exact ⟨g1, g2 k x hk hx hd ha⟩
theorem says_ok : (snSays l h).2 = decide (snWhich l h ≥ 0) := by
  unfold snSays
  split
  · rename_i e; symm; rw [decide_eq_false_iff_not]; omega
  · rename_i e; symm; rw [decide_eq_true_iff]; omega
end
section
variable {Z : List PanicEntry → PT} {Q : Bool → PT} {W w : World} {h : List UInt8}
theorem says_loop {hb : Nat} {o : Sl3} {l : List En} (hv : Places W) (hl : h.length = 13) (hr : EnO W o l) (hok : ∀ x ∈ l, x.Ok) (h0 : 0 ≤ snWhich l h) (hq : ∀ w', Ext W w' → Q true w') :
    ∀ (m j : Nat) (w : World), l.length = j + m → Sep (fun _ => False) W w [fB hb (encH h)] →
    law07_SenseSays.l23 Z Q (m + 1) o.a o.n o.c ⟨hb, 0, none⟩ (snWhich l h) true j w := by
  have hmax := hr.max
  have hn := hr.1
  have hwl := snWhich_lt (l := l) (h := h)
  intro m
  induction m with
  | zero =>
    intro j w hm g
    unfold law07_SenseSays.l23 law07_SenseSays.s34
    rw [pif_true, pif_dec, if_neg (by omega)]
    exact hq w g.kept
  | succ m ih =>
    intro j w hm g
    have hx := List.getElem?_eq_getElem (show j < l.length by omega)
    have hmem := List.getElem_mem (show j < l.length by omega)
    unfold law07_SenseSays.l23 law07_SenseSays.s34
    rw [pif_true, pif_dec, if_pos (by omega)]
    have xok := hok _ hmem
    generalize l[j] = x at hx xok
    have next : ∀ (w : World), Sep (fun _ => False) W w [fB hb (encH h)] → law07_SenseSays.s30 Z Q (law07_SenseSays.l23 Z Q (m + 1)) o.a o.n o.c ⟨hb, 0, none⟩ (snWhich l h) true j w := fun w g => by
      unfold law07_SenseSays.s30
      rw [wrap_nat1 (by omega)]
      exact ih (j + 1) w (by omega) g
    have all : ∀ {w'}, Sep (fun _ => False) W w' [fB hb (encH h)] → IsB w' hb (encH h) ∧ EnO w' o l := fun g => ⟨g.at (n := 0) rfl, hr.ext g.kept⟩
    refine g.drawn (fun w' => IsB w' hb (encH h) ∧ EnO w' o l) (all g.drew) fun g => ?_
    have held : ∀ {i : Nat} {y : En} {ad : Addr}, l[i]? = some y → o.a = some ad → ∀ w', (IsB w' hb (encH h) ∧ EnO w' o l) → cellsAt w' (ad.add (i * 12)) y.enc := fun {i y ad} hi ha w' g => by
      obtain ⟨ad', h1, h2⟩ := g.2.2.2.2 i y hi
      rw [ha] at h1
      cases h1
      exact h2
    have ix : ∀ {i : Int} {y : En} {K : Addr → PT} {w : World}, 0 ≤ i → l[i.toNat]? = some y → Sep (fun _ => False) W w [fB hb (encH h)] → (∀ ad, (∀ w', (IsB w' hb (encH h) ∧ EnO w' o l) → cellsAt w' ad y.enc) → K ad w) → ixS o.a o.n i 12 K w := fun {i y K w} h0 hi g hK => by
      obtain ⟨ad, h1, h2⟩ := (hr.ext g.kept).2.2.2 _ y hi
      have hlt := (List.getElem?_eq_some_iff.1 hi).1
      exact ixS_of h1 h0 (by omega) (hK _ (held hi h1))
    have hxi : l[((j : Nat) : Int).toNat]? = some x := by rw [Int.toNat_natCast]; exact hx
    have hwi := enAt_some h0 hwl
    refine ix (by omega) hxi g fun ad hcell => ?_
    refine hB_of (n := x.default) (fun w' g => hcell w' g 0 _ rfl) ?_
    cases xd : x.default with
    | true => exact next _ g
    | false =>
    rw [pif_not, pif_false]
    refine ix (by omega) hxi g fun ad hcell => ?_
    refine hN_of (cs := x.enc) rfl hcell ?_
    refine hN_hd hl (fun w' g => g.1) ?_
    refine applies_cal (hv.ext g.kept) hl xok fun w2 k2 => ?_
    have g2 := g.ext k2
    refine sAnd_of (all g2) ?_
    rw [pif_bool]
    split
    case isFalse ea => exact next _ g2
    rename_i ea
    obtain ⟨b1, b2, b3⟩ := which_best h0 hx xd ea
    refine ix h0 hwi g2 fun ad hcell => ?_
    refine hB_of (n := (enAt l (snWhich l h)).default) (fun w' g => hcell w' g 0 _ rfl) ?_
    rw [b1, pif_false]
    refine ix (by omega) hxi g2 fun ad hcell => ?_
    refine hI_of (n := x.prio) (fun w' g => hcell w' g 1 _ rfl) ?_
    refine ix h0 hwi g2 fun ad hcell => ?_
    refine hI_of (n := (enAt l (snWhich l h)).prio) (fun w' g => hcell w' g 1 _ rfl) ?_
    rw [pif_dec, if_neg (by omega)]
    refine ix (by omega) hxi g2 fun ad hcell => ?_
    refine hI_of (n := x.prio) (fun w' g => hcell w' g 1 _ rfl) ?_
    refine ix h0 hwi g2 fun ad hcell => ?_
    refine hI_of (n := (enAt l (snWhich l h)).prio) (fun w' g => hcell w' g 1 _ rfl) ?_
    rw [pif_beq]
    split
    · rename_i e
      rw [pif_dec, if_neg (by have := b3 e; omega)]
      exact next _ g2
    · exact next _ g2
theorem ssy_F {o : Sl3} {l : List En} (hv : Places w) (hl : h.length = 13) (hr : EnO w o l) (hok : ∀ x ∈ l, x.Ok) (hq : ∀ w', Ext w w' → Q true w') : law07_SenseSays.F Z Q o.a o.n o.c (encH h) w := by
  unfold law07_SenseSays.F law07_SenseSays.s43
  refine (Sep.start (fun _ => False) w).new fun w1 hb h1 k1 => ?_
  refine awake_cal (hv.ext h1.kept) fun w2 k2 => ?_
  have h2 := h1.ext k2
  rw [pif_not, pif_true]
  have hn := hr.1
  obtain ⟨i, hi, hil⟩ : ∃ i : Nat, (if 200 < ((o.n : Nat) : Int) then 200 else ((o.n : Nat) : Int)) = (i : Int) ∧ i ≤ l.length := by
    split
    · exact ⟨200, rfl, by omega⟩
    · exact ⟨o.n, rfl, by omega⟩
  rw [hi]
  refine slS_Ro (hr.ext h2.kept) hil ?_
  have hr : EnO w ⟨o.a, i, o.c⟩ (l.take i) := hr.take hil
  have hok : ∀ x ∈ l.take i, x.Ok := fun x hx => hok x (List.mem_of_mem_take hx)
  generalize l.take i = l at hr hok
  refine h2.ldN 0 rfl (sub13 hl) (len13 hl) (which_cal (o := ⟨o.a, i, o.c⟩) (hv.ext h2.kept) hl (hr.ext h2.kept) hok fun w3 k3 => ?_)
  have h3 := h2.ext k3
  refine h3.ldN 0 rfl (sub13 hl) (len13 hl) (says_cal (o := ⟨o.a, i, o.c⟩) (hv.ext h3.kept) hl (hr.ext h3.kept) hok fun w4 k4 => ?_)
  have h4 := h3.ext k4
  refine h4.ldN 0 rfl (sub13 hl) (len13 hl) (says2_cal (o := ⟨o.a, i, o.c⟩) hl (hr.ext h4.kept) hok fun w5 k5 => ?_)
  have h5 := h4.ext k5
  refine h5.ldN 0 rfl (sub13 hl) (len13 hl) (which2_cal (o := ⟨o.a, i, o.c⟩) hl (hr.ext h5.kept) hok fun w6 k6 => ?_)
  have h6 := h5.ext k6
  rw [pif_bne, if_pos rfl, pif_bne, if_pos rfl, beq_self_eq_true]
  rw [show (!true) = false from rfl, pif_false, says_ok, beq_self_eq_true, show (!true) = false from rfl, pif_false]
  unfold law07_SenseSays.s40
  by_cases h0 : snWhich l h ≥ 0
  · rw [decide_eq_true h0]
    exact exK_of (l.length + 1) (says_loop (o := ⟨o.a, i, o.c⟩) hv hl hr hok h0 hq l.length 0 w6 (by omega) h6)
  · rw [decide_eq_false h0]
    refine exK_of 1 ?_
    unfold law07_SenseSays.l23 law07_SenseSays.s34
    rw [pif_false]
    exact hq w6 h6.kept
end
theorem SenseSays_walk : WalkedL (Rows.senseSaysRow.laid) 6 [23, 37] := by
  intro vs W hl ha hL
  match vs, hl with
  | [v0, v1], _ =>
    obtain ⟨o, l, rfl, h1, h2⟩ := ens_arg (ha 0 _ v0 rfl rfl)
    obtain ⟨h, rfl, lh⟩ := head_of (ha 1 _ v1 rfl rfl)
    have g1 := places_of hL (by simp [Rows.senseSaysRow]; rfl)
    refine (law07_SenseSays.vc0 (Good W) o.a o.n o.c (encH h) W (ssy_F g1 lh h1 h2 fun w' k => ⟨rfl, k⟩)).mono fun e w' ⟨r, he, hr, hk⟩ => ⟨by rw [he, hr], hk.below⟩
end Go.Proofs.YtllgjjldnnmjkaaDoor
