/-
  HeadOrder: the walk of the law. No condition.
-/
import Derived.Test.YtchhffabpgebmaaDoorLaw1
set_option linter.unusedVariables false
set_option linter.unusedSimpArgs false
namespace Go.Proofs.YtchhffabpgebmaaDoor
open Go.RowKit Extern.Stop
section
variable {Z : List PanicEntry → PT} {Q : Bool → PT} {w0 w : World} {a b c : List UInt8} {ab bb cb : Nat}
theorem ho_s6 (ha : a.length = 13) (hb' : b.length = 13) (hc : c.length = 13) (h : Sep (fun _ => False) w0 w [fB cb (encH c), fB bb (encH b), fB ab (encH a)]) (hq : ∀ w', Ext w0 w' → Q true w') : law01_HeadOrder.s6 Z Q ⟨ab, 0, none⟩ ⟨bb, 0, none⟩ ⟨cb, 0, none⟩ w := by
  unfold law01_HeadOrder.s6
  refine h.ldN 2 rfl (sub13 ha) (len13 ha) (h.ldN 1 rfl (sub13 hb') (len13 hb') (less_cal ha hb' fun w1 k1 => ?_))
  have h := h.ext k1
  rw [pif_not, pif_bool]
  split
  · rename_i e1
    refine h.ldN 1 rfl (sub13 hb') (len13 hb') (h.ldN 0 rfl (sub13 hc) (len13 hc) (less_cal hb' hc fun w2 k2 => ?_))
    have h := h.ext k2
    rw [pif_not, pif_bool]
    split
    · rename_i e2
      refine h.ldN 2 rfl (sub13 ha) (len13 ha) (h.ldN 0 rfl (sub13 hc) (len13 hc) (less_cal ha hc fun w3 k3 => ?_))
      rw [lex_trans a b c e1 e2]
      exact hq w3 (h.ext k3).kept
    · exact hq w2 h.kept
  · exact hq w1 h.kept
theorem hN_at {S : PT} {K : List Value → PT} {a : List UInt8} {p : Nat} (ha : a.length = 13) (hs : ∀ w', S w' → IsB w' p (encH a)) (hk : K (encH a) w) : hN S 13 ⟨p, 0, none⟩ K w :=
  hN_of (len13 ha) (fun w' hw' => cellsAt_B (hs w' hw') (by rw [len13 ha]; exact sub13 ha)) hk
theorem ho_F (hv : Places w) (hp : Pow10 w) (ha : a.length = 13) (hb' : b.length = 13) (hc : c.length = 13) (hq : ∀ w', Ext w w' → Q true w') : law01_HeadOrder.F Z Q (encH a) (encH b) (encH c) w := by
  unfold law01_HeadOrder.F law01_HeadOrder.s9
  refine (Sep.start (fun _ => False) w).new fun w1 ab h1 k1 => ?_
  refine h1.new fun w2 bb h2 k2 => ?_
  refine h2.new fun w3 cb h3 k3 => ?_
  refine awake_cal (hv.ext h3.kept) (hp.ext h3.kept) fun w4 k4 => ?_
  have h4 := h3.ext k4
  rw [pif_not, pif_true]
  have all : ∀ {w'}, Sep (fun _ => False) w w' [fB cb (encH c), fB bb (encH b), fB ab (encH a)] → IsB w' ab (encH a) ∧ IsB w' bb (encH b) := fun h => ⟨h.at (n := 2) rfl, h.at (n := 1) rfl⟩
  refine h4.drawn (fun w' => IsB w' ab (encH a) ∧ IsB w' bb (encH b)) (all h4.drew) fun h5 => ?_
  have A := fun (w' : World) (h : IsB w' ab (encH a) ∧ IsB w' bb (encH b)) => h.1
  have B := fun (w' : World) (h : IsB w' ab (encH a) ∧ IsB w' bb (encH b)) => h.2
  refine hN_at ha A (hN_at hb' B (hN_at ha A (hN_at hb' B (less_cal ha hb' fun w6 k6 => ?_))))
  have h6 := h5.ext k6
  refine sAnd_of (all h6) (less2_cal ha hb' fun w7 k7 => ?_)
  have h7 := h6.ext k7
  refine sAnd_of (all h7) ?_
  rw [show (!(lexL a b == lexL a b)) = false by simp, pif_false]
  refine hN_at ha A (hN_at ha A (less_cal ha ha fun w8 k8 => ?_))
  have h8 := h7.ext k8
  refine sAnd_of (all h8) ?_
  rw [lex_irr, pif_false]
  refine hN_at ha A (hN_at hb' B (neqH ha hb' (sAnd_of (all h8) ?_)))
  rw [pif_bool]
  split
  · rename_i hne
    have hne : a ≠ b := by simpa using hne
    refine hN_at ha A (hN_at hb' B (hN_at hb' B (hN_at ha A (less_cal ha hb' fun w9 k9 => ?_))))
    have h9 := h8.ext k9
    refine sAnd_of (all h9) (less_cal hb' ha fun wa ka => ?_)
    have ha' := h9.ext ka
    refine sAnd_of (all ha') ?_
    rw [lex_total a b (by omega) hne, show ((!lexL b a) == lexL b a) = false by cases lexL b a <;> rfl, pif_false]
    exact ho_s6 ha hb' hc ha' hq
  · exact ho_s6 ha hb' hc h8 hq
end
theorem HeadOrder_walk : WalkedL (Rows.headOrderRow.laid) 6 [26, 26, 26] := by
  intro vs W hl ha hL
  match vs, hl with
  | [v0, v1, v2], _ =>
    obtain ⟨a, rfl, la⟩ := hd_of (ha 0 _ v0 rfl rfl)
    obtain ⟨b, rfl, lb⟩ := hd_of (ha 1 _ v1 rfl rfl)
    obtain ⟨c, rfl, lc⟩ := hd_of (ha 2 _ v2 rfl rfl)
    obtain ⟨g1, g2⟩ := glb_of hL (by simp [Rows.headOrderRow]; rfl) (by simp [Rows.headOrderRow]; rfl)
    refine (law01_HeadOrder.vc0 (Good W) (encH a) (encH b) (encH c) W (ho_F g1 g2 la lb lc fun w' k => ⟨rfl, k⟩)).mono fun e w' ⟨r, he, hr, hk⟩ => ⟨by rw [he, hr], hk.below⟩
end Go.Proofs.YtchhffabpgebmaaDoor
