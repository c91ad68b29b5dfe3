/-
  HeadReads: the walk of the law. No condition.
-/
import Derived.Test.YtchhffabpgebmaaDoorParseW2
set_option linter.unusedVariables false
set_option linter.unusedSimpArgs false
namespace Go.Proofs.YtchhffabpgebmaaDoor
open Go.RowKit Extern.Stop
theorem ifText_len {s : ByteArray} {g : List UInt8} (h : g.length = 13) : (ifText s g).1.length = 13 := by
  unfold ifText
  split
  · exact h
  · rfl
theorem readH_len (s : ByteArray) : (readH s).1.length = 13 := by
  unfold readH
  split
  · rfl
  · exact ifText_len (headP_len _)
theorem HeadReads_walk : WalkedL (Rows.headReadsRow.laid) 8 [9] := by
  intro vs W hl ha hL
  match vs, hl with
  | [v0], _ =>
    obtain ⟨s, rfl, hs⟩ := (ha 0 _ v0 rfl rfl).str Tryd.underlying9
    obtain ⟨g1, g2⟩ := glb_of hL (by simp [Rows.headReadsRow]; rfl) (by simp [Rows.headReadsRow]; rfl)
    refine (law01_HeadReads.vc0 (Good W) s W ?_).mono fun e w' ⟨r, he, hr, hk⟩ => ⟨by rw [he, hr], hk.below⟩
    have lh := readH_len s
    unfold law01_HeadReads.F
    refine awake_cal g1 g2 fun w2 k2 => ?_
    rw [pif_not, pif_true]
    have h2 := (Sep.start (fun _ => False) W).ext k2
    refine parse_cal (g1.ext h2.kept) (g2.ext h2.kept) fun w4 k4 => ?_
    have h4 := h2.ext k4
    refine h4.new fun w5 gb h5 k5 => ?_
    refine h5.stN 0 rfl (by decide) (len13 lh) (encH_one _) (lay_all13 rfl (len13 lh)) fun w6 h6 k6 => ?_
    refine parse2_cal fun w7 k7 => ?_
    rw [← read_same]
    have h7 := h6.ext k7
    refine h7.new fun w8 gb2 h8 k8 => ?_
    refine h8.stN 0 rfl (by decide) (len13 lh) (encH_one _) (lay_all13 rfl (len13 lh)) fun w9 h9 k9 => ?_
    refine h9.ldN 1 rfl (sub13 lh) (len13 lh) (h9.ldN 0 rfl (sub13 lh) (len13 lh) (eqlH lh lh ?_))
    have e2 : ((readH s).1 == (readH s).1) = true := beq_self_eq_true _
    rw [e2, pif_true]
    exact ⟨beq_self_eq_true _, h9.kept⟩
end Go.Proofs.YtchhffabpgebmaaDoor
